/-
  The lowered code of law1 and of the reference, each equal to what the program's form lowers to. No conditions.
-/
import Derived.Test.YtjjpfffclcofnaaGreatDoorAbsTwo
import Derived.Test.YtjjpfffclcofnaaGreatDoorProg
import Derived.Test.YtjjpfffclcofnaaGreatDoorNatA
import Derived.KernelRfl
set_option linter.unusedSimpArgs false
set_option linter.unusedVariables false
set_option linter.constructorNameAsVariable false

/-
  The lowered code of the functions, as the program's form has it.
-/
namespace Go.Proofs.YtjjpfffclcofnaaGreatDoor
open Go Go.Abs
def lf3 : LFunc := ⟨72, [(.slot 4)], (
  .seq (
   .region [
     ⟨(some 4), none, .mov (.cst (.p (.bool false)))⟩]) (
   .seq (
    .seq (
     .region [
       ⟨(some 12), none, .mov (.tmp 0)⟩,
       ⟨(some 13), none, .lenS (.tmp 12)⟩,
       ⟨(some 14), none, .bin .gtr (.tmp 13) (.cst (.p (.int .i64 200)))⟩,
       ⟨(some 15), none, .mov (.tmp 14)⟩,
       ⟨(some 16), (some (15, false)), .mov (.tmp 1)⟩,
       ⟨(some 17), (some (15, false)), .len (.tmp 16)⟩,
       ⟨(some 18), (some (15, false)), .bin .gtr (.tmp 17) (.cst (.p (.int .i64 12)))⟩,
       ⟨(some 19), none, .pick (.tmp 15) (.cst (.p (.bool true))) (.tmp 18)⟩]) (
     .cond (.tmp 19) (
      .seq (
       .region [
         ⟨(some 20), none, .call 15 []⟩,
         ⟨(some 4), none, .mov (.tmp 20)⟩]) (
       .ret)) (
      .skip))) (
    .seq (
     .region [
       ⟨(some 22), none, .mov (.tmp 0)⟩,
       ⟨(some 23), none, .call 16 [(.tmp 22)]⟩,
       ⟨(some 21), none, .mov (.tmp 23)⟩,
       ⟨(some 24), none, .ext (.tmp 21) 0⟩,
       ⟨(some 25), none, .ext (.tmp 21) 1⟩,
       ⟨(some 5), none, .mov (.tmp 24)⟩,
       ⟨(some 6), none, .mov (.tmp 25)⟩]) (
     .seq (
      .region [
        ⟨(some 27), none, .mov (.tmp 0)⟩,
        ⟨(some 28), none, .call 17 [(.tmp 27)]⟩,
        ⟨(some 26), none, .mov (.tmp 28)⟩,
        ⟨(some 29), none, .ext (.tmp 26) 0⟩,
        ⟨(some 30), none, .ext (.tmp 26) 1⟩,
        ⟨(some 7), none, .mov (.tmp 29)⟩,
        ⟨(some 8), none, .mov (.tmp 30)⟩]) (
      .seq (
       .region [
         ⟨(some 31), none, .mov (.tmp 1)⟩,
         ⟨(some 32), none, .call 18 [(.tmp 31)]⟩,
         ⟨(some 9), none, .mov (.tmp 32)⟩]) (
       .seq (
        .seq (
         .region [
           ⟨(some 33), none, .mov (.tmp 5)⟩,
           ⟨(some 34), none, .mov (.tmp 7)⟩,
           ⟨(some 35), none, .call 19 [(.tmp 33), (.tmp 34)]⟩,
           ⟨(some 36), none, .un .not (.tmp 35)⟩,
           ⟨(some 37), none, .mov (.tmp 36)⟩,
           ⟨(some 38), (some (37, false)), .mov (.tmp 6)⟩,
           ⟨(some 39), (some (37, false)), .mov (.tmp 8)⟩,
           ⟨(some 40), (some (37, false)), .bin .neq (.tmp 38) (.tmp 39)⟩,
           ⟨(some 41), none, .pick (.tmp 37) (.cst (.p (.bool true))) (.tmp 40)⟩,
           ⟨(some 42), none, .mov (.tmp 41)⟩,
           ⟨(some 43), (some (42, false)), .mov (.tmp 9)⟩,
           ⟨(some 44), (some (42, false)), .mov (.tmp 1)⟩,
           ⟨(some 45), (some (42, false)), .call 20 [(.tmp 44)]⟩,
           ⟨(some 46), (some (42, false)), .bin .neq (.tmp 43) (.tmp 45)⟩,
           ⟨(some 47), none, .pick (.tmp 42) (.cst (.p (.bool true))) (.tmp 46)⟩]) (
         .cond (.tmp 47) (
          .seq (
           .region [
             ⟨(some 4), none, .mov (.cst (.p (.bool false)))⟩]) (
           .ret)) (
          .skip))) (
        .seq (
         .seq (
          .region [
            ⟨(some 48), none, .mov (.tmp 1)⟩,
            ⟨(some 49), none, .call 21 [(.tmp 48)]⟩,
            ⟨(some 50), none, .un .not (.tmp 49)⟩]) (
          .cond (.tmp 50) (
           .seq (
            .region [
              ⟨(some 51), none, .mov (.tmp 9)⟩,
              ⟨(some 52), none, .bin .eql (.tmp 51) (.cst (.p (.str [])))⟩,
              ⟨(some 53), none, .mov (.tmp 52)⟩,
              ⟨(some 54), (some (53, true)), .call 15 []⟩,
              ⟨(some 55), none, .pick (.tmp 53) (.tmp 54) (.cst (.p (.bool false)))⟩,
              ⟨(some 4), none, .mov (.tmp 55)⟩]) (
            .ret)) (
           .skip))) (
         .seq (
          .region [
            ⟨(some 57), none, .mov (.tmp 9)⟩,
            ⟨(some 58), none, .bin .add (.cst (.p (.str [48, 48]))) (.tmp 57)⟩,
            ⟨(some 59), none, .call 16 [(.tmp 58)]⟩,
            ⟨(some 56), none, .mov (.tmp 59)⟩,
            ⟨(some 60), none, .ext (.tmp 56) 0⟩,
            ⟨(some 61), none, .ext (.tmp 56) 1⟩,
            ⟨(some 10), none, .mov (.tmp 60)⟩,
            ⟨(some 11), none, .mov (.tmp 61)⟩]) (
          .seq (
           .region [
             ⟨(some 62), none, .mov (.tmp 11)⟩,
             ⟨(some 63), none, .bin .eql (.tmp 62) (.cst (.p (.int .i64 0)))⟩,
             ⟨(some 64), none, .mov (.tmp 63)⟩,
             ⟨(some 65), (some (64, true)), .mov (.tmp 10)⟩,
             ⟨(some 66), (some (64, true)), .mov (.tmp 1)⟩,
             ⟨(some 67), (some (64, true)), .call 19 [(.tmp 65), (.tmp 66)]⟩,
             ⟨(some 68), none, .pick (.tmp 64) (.tmp 67) (.cst (.p (.bool false)))⟩,
             ⟨(some 69), none, .mov (.tmp 68)⟩,
             ⟨(some 70), (some (69, true)), .call 15 []⟩,
             ⟨(some 71), none, .pick (.tmp 69) (.tmp 70) (.cst (.p (.bool false)))⟩,
             ⟨(some 4), none, .mov (.tmp 71)⟩]) (
           .ret))))))))))⟩
theorem low3 : lowFunc Tryz.prog gl0 3 = some lf3 := by kernel_rfl
def lf4 : LFunc := ⟨106, [(.slot 4)], (
  .seq (
   .region [
     ⟨(some 4), none, .mov (.cst (.p (.bool false)))⟩]) (
   .seq (
    .seq (
     .region [
       ⟨(some 17), none, .mov (.tmp 0)⟩,
       ⟨(some 18), none, .mov (.tmp 1)⟩,
       ⟨(some 19), none, .buildSl 1 22 (.tight []) 2 [(0, (.tmp 17)), (1, (.tmp 18))]⟩,
       ⟨(some 20), none, .call 22 [(.tmp 19)]⟩,
       ⟨(some 21), none, .un .not (.tmp 20)⟩]) (
     .cond (.tmp 21) (
      .seq (
       .region [
         ⟨(some 22), none, .call 15 []⟩,
         ⟨(some 4), none, .mov (.tmp 22)⟩]) (
       .ret)) (
      .skip))) (
    .seq (
     .region [
       ⟨(some 24), none, .mov (.tmp 0)⟩,
       ⟨(some 25), none, .mov (.tmp 1)⟩,
       ⟨(some 26), none, .call 23 [(.tmp 24), (.tmp 25)]⟩,
       ⟨(some 23), none, .mov (.tmp 26)⟩,
       ⟨(some 27), none, .ext (.tmp 23) 0⟩,
       ⟨(some 28), none, .ext (.tmp 23) 1⟩,
       ⟨(some 5), none, .mov (.tmp 27)⟩,
       ⟨(some 6), none, .mov (.tmp 28)⟩]) (
     .seq (
      .region [
        ⟨(some 30), none, .mov (.tmp 0)⟩,
        ⟨(some 31), none, .mov (.tmp 1)⟩,
        ⟨(some 32), none, .call 24 [(.tmp 30), (.tmp 31)]⟩,
        ⟨(some 29), none, .mov (.tmp 32)⟩,
        ⟨(some 33), none, .ext (.tmp 29) 0⟩,
        ⟨(some 34), none, .ext (.tmp 29) 1⟩,
        ⟨(some 7), none, .mov (.tmp 33)⟩,
        ⟨(some 8), none, .mov (.tmp 34)⟩]) (
      .seq (
       .region [
         ⟨(some 36), none, .mov (.tmp 0)⟩,
         ⟨(some 37), none, .mov (.tmp 1)⟩,
         ⟨(some 38), none, .call 25 [(.tmp 36), (.tmp 37)]⟩,
         ⟨(some 35), none, .mov (.tmp 38)⟩,
         ⟨(some 39), none, .ext (.tmp 35) 0⟩,
         ⟨(some 40), none, .ext (.tmp 35) 1⟩,
         ⟨(some 9), none, .mov (.tmp 39)⟩,
         ⟨(some 10), none, .mov (.tmp 40)⟩]) (
       .seq (
        .region [
          ⟨(some 42), none, .mov (.tmp 0)⟩,
          ⟨(some 43), none, .mov (.tmp 1)⟩,
          ⟨(some 44), none, .call 26 [(.tmp 42), (.tmp 43)]⟩,
          ⟨(some 41), none, .mov (.tmp 44)⟩,
          ⟨(some 45), none, .ext (.tmp 41) 0⟩,
          ⟨(some 46), none, .ext (.tmp 41) 1⟩,
          ⟨(some 11), none, .mov (.tmp 45)⟩,
          ⟨(some 12), none, .mov (.tmp 46)⟩]) (
        .seq (
         .region [
           ⟨(some 48), none, .mov (.tmp 0)⟩,
           ⟨(some 49), none, .mov (.tmp 1)⟩,
           ⟨(some 50), none, .call 27 [(.tmp 48), (.tmp 49)]⟩,
           ⟨(some 47), none, .mov (.tmp 50)⟩,
           ⟨(some 51), none, .ext (.tmp 47) 0⟩,
           ⟨(some 52), none, .ext (.tmp 47) 1⟩,
           ⟨(some 13), none, .mov (.tmp 51)⟩,
           ⟨(some 14), none, .mov (.tmp 52)⟩]) (
         .seq (
          .region [
            ⟨(some 54), none, .mov (.tmp 0)⟩,
            ⟨(some 55), none, .mov (.tmp 1)⟩,
            ⟨(some 56), none, .call 28 [(.tmp 54), (.tmp 55)]⟩,
            ⟨(some 53), none, .mov (.tmp 56)⟩,
            ⟨(some 57), none, .ext (.tmp 53) 0⟩,
            ⟨(some 58), none, .ext (.tmp 53) 1⟩,
            ⟨(some 15), none, .mov (.tmp 57)⟩,
            ⟨(some 16), none, .mov (.tmp 58)⟩]) (
          .seq (
           .region [
             ⟨(some 59), none, .mov (.tmp 5)⟩,
             ⟨(some 60), none, .mov (.tmp 7)⟩,
             ⟨(some 61), none, .call 19 [(.tmp 59), (.tmp 60)]⟩,
             ⟨(some 62), none, .mov (.tmp 61)⟩,
             ⟨(some 63), (some (62, true)), .mov (.tmp 6)⟩,
             ⟨(some 64), (some (62, true)), .mov (.tmp 8)⟩,
             ⟨(some 65), (some (62, true)), .bin .eql (.tmp 63) (.tmp 64)⟩,
             ⟨(some 66), none, .pick (.tmp 62) (.tmp 65) (.cst (.p (.bool false)))⟩,
             ⟨(some 67), none, .mov (.tmp 66)⟩,
             ⟨(some 68), (some (67, true)), .mov (.tmp 9)⟩,
             ⟨(some 69), (some (67, true)), .mov (.tmp 11)⟩,
             ⟨(some 70), (some (67, true)), .call 19 [(.tmp 68), (.tmp 69)]⟩,
             ⟨(some 71), none, .pick (.tmp 67) (.tmp 70) (.cst (.p (.bool false)))⟩,
             ⟨(some 72), none, .mov (.tmp 71)⟩,
             ⟨(some 73), (some (72, true)), .mov (.tmp 10)⟩,
             ⟨(some 74), (some (72, true)), .mov (.tmp 12)⟩,
             ⟨(some 75), (some (72, true)), .bin .eql (.tmp 73) (.tmp 74)⟩,
             ⟨(some 76), none, .pick (.tmp 72) (.tmp 75) (.cst (.p (.bool false)))⟩,
             ⟨(some 77), none, .mov (.tmp 76)⟩,
             ⟨(some 78), (some (77, true)), .mov (.tmp 13)⟩,
             ⟨(some 79), (some (77, true)), .mov (.tmp 15)⟩,
             ⟨(some 80), (some (77, true)), .call 19 [(.tmp 78), (.tmp 79)]⟩,
             ⟨(some 81), none, .pick (.tmp 77) (.tmp 80) (.cst (.p (.bool false)))⟩,
             ⟨(some 82), none, .mov (.tmp 81)⟩,
             ⟨(some 83), (some (82, true)), .mov (.tmp 14)⟩,
             ⟨(some 84), (some (82, true)), .mov (.tmp 16)⟩,
             ⟨(some 85), (some (82, true)), .bin .eql (.tmp 83) (.tmp 84)⟩,
             ⟨(some 86), none, .pick (.tmp 82) (.tmp 85) (.cst (.p (.bool false)))⟩,
             ⟨(some 87), none, .mov (.tmp 86)⟩,
             ⟨(some 88), (some (87, true)), .mov (.tmp 0)⟩,
             ⟨(some 89), (some (87, true)), .mov (.tmp 1)⟩,
             ⟨(some 90), (some (87, true)), .call 29 [(.tmp 88), (.tmp 89)]⟩,
             ⟨(some 91), (some (87, true)), .mov (.tmp 0)⟩,
             ⟨(some 92), (some (87, true)), .mov (.tmp 1)⟩,
             ⟨(some 93), (some (87, true)), .call 30 [(.tmp 91), (.tmp 92)]⟩,
             ⟨(some 94), (some (87, true)), .bin .eql (.tmp 90) (.tmp 93)⟩,
             ⟨(some 95), none, .pick (.tmp 87) (.tmp 94) (.cst (.p (.bool false)))⟩,
             ⟨(some 96), none, .mov (.tmp 95)⟩,
             ⟨(some 97), (some (96, true)), .mov (.tmp 0)⟩,
             ⟨(some 98), (some (96, true)), .call 21 [(.tmp 97)]⟩,
             ⟨(some 99), (some (96, true)), .mov (.tmp 0)⟩,
             ⟨(some 100), (some (96, true)), .call 31 [(.tmp 99)]⟩,
             ⟨(some 101), (some (96, true)), .eqB false (.tmp 98) (.tmp 100)⟩,
             ⟨(some 102), none, .pick (.tmp 96) (.tmp 101) (.cst (.p (.bool false)))⟩,
             ⟨(some 103), none, .mov (.tmp 102)⟩,
             ⟨(some 104), (some (103, true)), .call 15 []⟩,
             ⟨(some 105), none, .pick (.tmp 103) (.tmp 104) (.cst (.p (.bool false)))⟩,
             ⟨(some 4), none, .mov (.tmp 105)⟩]) (
           .ret))))))))))⟩
theorem low4 : lowFunc Tryz.prog gl0 4 = some lf4 := by kernel_rfl
def lf5 : LFunc := ⟨140, [(.slot 6)], (
  .seq (
   .region [
     ⟨(some 6), none, .mov (.cst (.p (.bool false)))⟩]) (
   .seq (
    .seq (
     .region [
       ⟨(some 21), none, .mov (.tmp 0)⟩,
       ⟨(some 22), none, .len (.tmp 21)⟩,
       ⟨(some 23), none, .bin .gtr (.tmp 22) (.cst (.p (.int .i64 20)))⟩,
       ⟨(some 24), none, .mov (.tmp 23)⟩,
       ⟨(some 25), (some (24, false)), .mov (.tmp 1)⟩,
       ⟨(some 26), (some (24, false)), .len (.tmp 25)⟩,
       ⟨(some 27), (some (24, false)), .bin .gtr (.tmp 26) (.cst (.p (.int .i64 20)))⟩,
       ⟨(some 28), none, .pick (.tmp 24) (.cst (.p (.bool true))) (.tmp 27)⟩,
       ⟨(some 29), none, .mov (.tmp 28)⟩,
       ⟨(some 30), (some (29, false)), .mov (.tmp 2)⟩,
       ⟨(some 31), (some (29, false)), .len (.tmp 30)⟩,
       ⟨(some 32), (some (29, false)), .bin .gtr (.tmp 31) (.cst (.p (.int .i64 20)))⟩,
       ⟨(some 33), none, .pick (.tmp 29) (.cst (.p (.bool true))) (.tmp 32)⟩,
       ⟨(some 34), none, .mov (.tmp 33)⟩,
       ⟨(some 35), (some (34, false)), .mov (.tmp 0)⟩,
       ⟨(some 36), (some (34, false)), .call 21 [(.tmp 35)]⟩,
       ⟨(some 37), (some (34, false)), .un .not (.tmp 36)⟩,
       ⟨(some 38), none, .pick (.tmp 34) (.cst (.p (.bool true))) (.tmp 37)⟩,
       ⟨(some 39), none, .mov (.tmp 38)⟩,
       ⟨(some 40), (some (39, false)), .mov (.tmp 1)⟩,
       ⟨(some 41), (some (39, false)), .call 21 [(.tmp 40)]⟩,
       ⟨(some 42), (some (39, false)), .un .not (.tmp 41)⟩,
       ⟨(some 43), none, .pick (.tmp 39) (.cst (.p (.bool true))) (.tmp 42)⟩,
       ⟨(some 44), none, .mov (.tmp 43)⟩,
       ⟨(some 45), (some (44, false)), .mov (.tmp 2)⟩,
       ⟨(some 46), (some (44, false)), .call 21 [(.tmp 45)]⟩,
       ⟨(some 47), (some (44, false)), .un .not (.tmp 46)⟩,
       ⟨(some 48), none, .pick (.tmp 44) (.cst (.p (.bool true))) (.tmp 47)⟩]) (
     .cond (.tmp 48) (
      .seq (
       .region [
         ⟨(some 49), none, .call 15 []⟩,
         ⟨(some 6), none, .mov (.tmp 49)⟩]) (
       .ret)) (
      .skip))) (
    .seq (
     .region [
       ⟨(some 51), none, .mov (.tmp 0)⟩,
       ⟨(some 52), none, .mov (.tmp 1)⟩,
       ⟨(some 53), none, .call 23 [(.tmp 51), (.tmp 52)]⟩,
       ⟨(some 50), none, .mov (.tmp 53)⟩,
       ⟨(some 54), none, .ext (.tmp 50) 0⟩,
       ⟨(some 55), none, .ext (.tmp 50) 1⟩,
       ⟨(some 7), none, .mov (.tmp 54)⟩,
       ⟨(some 8), none, .mov (.tmp 55)⟩]) (
     .seq (
      .region [
        ⟨(some 57), none, .mov (.tmp 1)⟩,
        ⟨(some 58), none, .mov (.tmp 0)⟩,
        ⟨(some 59), none, .call 23 [(.tmp 57), (.tmp 58)]⟩,
        ⟨(some 56), none, .mov (.tmp 59)⟩,
        ⟨(some 60), none, .ext (.tmp 56) 0⟩,
        ⟨(some 61), none, .ext (.tmp 56) 1⟩,
        ⟨(some 9), none, .mov (.tmp 60)⟩,
        ⟨(some 10), none, .mov (.tmp 61)⟩]) (
      .seq (
       .region [
         ⟨(some 63), none, .mov (.tmp 7)⟩,
         ⟨(some 64), none, .mov (.tmp 2)⟩,
         ⟨(some 65), none, .call 27 [(.tmp 63), (.tmp 64)]⟩,
         ⟨(some 62), none, .mov (.tmp 65)⟩,
         ⟨(some 66), none, .ext (.tmp 62) 0⟩,
         ⟨(some 67), none, .ext (.tmp 62) 1⟩,
         ⟨(some 11), none, .mov (.tmp 66)⟩,
         ⟨(some 12), none, .mov (.tmp 67)⟩]) (
       .seq (
        .region [
          ⟨(some 69), none, .mov (.tmp 0)⟩,
          ⟨(some 70), none, .mov (.tmp 2)⟩,
          ⟨(some 71), none, .call 27 [(.tmp 69), (.tmp 70)]⟩,
          ⟨(some 68), none, .mov (.tmp 71)⟩,
          ⟨(some 72), none, .ext (.tmp 68) 0⟩,
          ⟨(some 73), none, .ext (.tmp 68) 1⟩,
          ⟨(some 13), none, .mov (.tmp 72)⟩,
          ⟨(some 14), none, .mov (.tmp 73)⟩]) (
        .seq (
         .region [
           ⟨(some 75), none, .mov (.tmp 1)⟩,
           ⟨(some 76), none, .mov (.tmp 2)⟩,
           ⟨(some 77), none, .call 27 [(.tmp 75), (.tmp 76)]⟩,
           ⟨(some 74), none, .mov (.tmp 77)⟩,
           ⟨(some 78), none, .ext (.tmp 74) 0⟩,
           ⟨(some 79), none, .ext (.tmp 74) 1⟩,
           ⟨(some 15), none, .mov (.tmp 78)⟩,
           ⟨(some 16), none, .mov (.tmp 79)⟩]) (
         .seq (
          .region [
            ⟨(some 81), none, .mov (.tmp 13)⟩,
            ⟨(some 82), none, .mov (.tmp 15)⟩,
            ⟨(some 83), none, .call 23 [(.tmp 81), (.tmp 82)]⟩,
            ⟨(some 80), none, .mov (.tmp 83)⟩,
            ⟨(some 84), none, .ext (.tmp 80) 0⟩,
            ⟨(some 85), none, .ext (.tmp 80) 1⟩,
            ⟨(some 17), none, .mov (.tmp 84)⟩,
            ⟨(some 18), none, .mov (.tmp 85)⟩]) (
          .seq (
           .region [
             ⟨(some 87), none, .mov (.tmp 7)⟩,
             ⟨(some 88), none, .mov (.tmp 1)⟩,
             ⟨(some 89), none, .call 25 [(.tmp 87), (.tmp 88)]⟩,
             ⟨(some 86), none, .mov (.tmp 89)⟩,
             ⟨(some 90), none, .ext (.tmp 86) 0⟩,
             ⟨(some 91), none, .ext (.tmp 86) 1⟩,
             ⟨(some 19), none, .mov (.tmp 90)⟩,
             ⟨(some 20), none, .mov (.tmp 91)⟩]) (
           .seq (
            .region [
              ⟨(some 92), none, .mov (.tmp 8)⟩,
              ⟨(some 93), none, .bin .eql (.tmp 92) (.cst (.p (.int .i64 0)))⟩,
              ⟨(some 94), none, .mov (.tmp 93)⟩,
              ⟨(some 95), (some (94, true)), .mov (.tmp 10)⟩,
              ⟨(some 96), (some (94, true)), .bin .eql (.tmp 95) (.cst (.p (.int .i64 0)))⟩,
              ⟨(some 97), none, .pick (.tmp 94) (.tmp 96) (.cst (.p (.bool false)))⟩,
              ⟨(some 98), none, .mov (.tmp 97)⟩,
              ⟨(some 99), (some (98, true)), .mov (.tmp 12)⟩,
              ⟨(some 100), (some (98, true)), .bin .eql (.tmp 99) (.cst (.p (.int .i64 0)))⟩,
              ⟨(some 101), none, .pick (.tmp 98) (.tmp 100) (.cst (.p (.bool false)))⟩,
              ⟨(some 102), none, .mov (.tmp 101)⟩,
              ⟨(some 103), (some (102, true)), .mov (.tmp 14)⟩,
              ⟨(some 104), (some (102, true)), .bin .eql (.tmp 103) (.cst (.p (.int .i64 0)))⟩,
              ⟨(some 105), none, .pick (.tmp 102) (.tmp 104) (.cst (.p (.bool false)))⟩,
              ⟨(some 106), none, .mov (.tmp 105)⟩,
              ⟨(some 107), (some (106, true)), .mov (.tmp 16)⟩,
              ⟨(some 108), (some (106, true)), .bin .eql (.tmp 107) (.cst (.p (.int .i64 0)))⟩,
              ⟨(some 109), none, .pick (.tmp 106) (.tmp 108) (.cst (.p (.bool false)))⟩,
              ⟨(some 110), none, .mov (.tmp 109)⟩,
              ⟨(some 111), (some (110, true)), .mov (.tmp 18)⟩,
              ⟨(some 112), (some (110, true)), .bin .eql (.tmp 111) (.cst (.p (.int .i64 0)))⟩,
              ⟨(some 113), none, .pick (.tmp 110) (.tmp 112) (.cst (.p (.bool false)))⟩,
              ⟨(some 114), none, .mov (.tmp 113)⟩,
              ⟨(some 115), (some (114, true)), .mov (.tmp 20)⟩,
              ⟨(some 116), (some (114, true)), .bin .eql (.tmp 115) (.cst (.p (.int .i64 0)))⟩,
              ⟨(some 117), none, .pick (.tmp 114) (.tmp 116) (.cst (.p (.bool false)))⟩,
              ⟨(some 118), none, .mov (.tmp 117)⟩,
              ⟨(some 119), (some (118, true)), .mov (.tmp 7)⟩,
              ⟨(some 120), (some (118, true)), .mov (.tmp 9)⟩,
              ⟨(some 121), (some (118, true)), .call 19 [(.tmp 119), (.tmp 120)]⟩,
              ⟨(some 122), none, .pick (.tmp 118) (.tmp 121) (.cst (.p (.bool false)))⟩,
              ⟨(some 123), none, .mov (.tmp 122)⟩,
              ⟨(some 124), (some (123, true)), .mov (.tmp 11)⟩,
              ⟨(some 125), (some (123, true)), .mov (.tmp 17)⟩,
              ⟨(some 126), (some (123, true)), .call 19 [(.tmp 124), (.tmp 125)]⟩,
              ⟨(some 127), none, .pick (.tmp 123) (.tmp 126) (.cst (.p (.bool false)))⟩,
              ⟨(some 128), none, .mov (.tmp 127)⟩,
              ⟨(some 129), (some (128, true)), .mov (.tmp 19)⟩,
              ⟨(some 130), (some (128, true)), .mov (.tmp 0)⟩,
              ⟨(some 131), (some (128, true)), .call 19 [(.tmp 129), (.tmp 130)]⟩,
              ⟨(some 132), none, .pick (.tmp 128) (.tmp 131) (.cst (.p (.bool false)))⟩,
              ⟨(some 133), none, .mov (.tmp 132)⟩,
              ⟨(some 134), (some (133, true)), .mov (.tmp 11)⟩,
              ⟨(some 135), (some (133, true)), .call 21 [(.tmp 134)]⟩,
              ⟨(some 136), none, .pick (.tmp 133) (.tmp 135) (.cst (.p (.bool false)))⟩,
              ⟨(some 137), none, .mov (.tmp 136)⟩,
              ⟨(some 138), (some (137, true)), .call 15 []⟩,
              ⟨(some 139), none, .pick (.tmp 137) (.tmp 138) (.cst (.p (.bool false)))⟩,
              ⟨(some 6), none, .mov (.tmp 139)⟩]) (
            .ret)))))))))))⟩
theorem low5 : lowFunc Tryz.prog gl0 5 = some lf5 := by kernel_rfl
def lf6 : LFunc := ⟨104, [(.slot 4)], (
  .seq (
   .region [
     ⟨(some 4), none, .mov (.cst (.p (.bool false)))⟩]) (
   .seq (
    .seq (
     .region [
       ⟨(some 10), none, .mov (.tmp 0)⟩,
       ⟨(some 11), none, .len (.tmp 10)⟩,
       ⟨(some 12), none, .bin .gtr (.tmp 11) (.cst (.p (.int .i64 20)))⟩,
       ⟨(some 13), none, .mov (.tmp 12)⟩,
       ⟨(some 14), (some (13, false)), .mov (.tmp 1)⟩,
       ⟨(some 15), (some (13, false)), .len (.tmp 14)⟩,
       ⟨(some 16), (some (13, false)), .bin .gtr (.tmp 15) (.cst (.p (.int .i64 20)))⟩,
       ⟨(some 17), none, .pick (.tmp 13) (.cst (.p (.bool true))) (.tmp 16)⟩,
       ⟨(some 18), none, .mov (.tmp 17)⟩,
       ⟨(some 19), (some (18, false)), .mov (.tmp 0)⟩,
       ⟨(some 20), (some (18, false)), .call 21 [(.tmp 19)]⟩,
       ⟨(some 21), (some (18, false)), .un .not (.tmp 20)⟩,
       ⟨(some 22), none, .pick (.tmp 18) (.cst (.p (.bool true))) (.tmp 21)⟩,
       ⟨(some 23), none, .mov (.tmp 22)⟩,
       ⟨(some 24), (some (23, false)), .mov (.tmp 1)⟩,
       ⟨(some 25), (some (23, false)), .call 21 [(.tmp 24)]⟩,
       ⟨(some 26), (some (23, false)), .un .not (.tmp 25)⟩,
       ⟨(some 27), none, .pick (.tmp 23) (.cst (.p (.bool true))) (.tmp 26)⟩]) (
     .cond (.tmp 27) (
      .seq (
       .region [
         ⟨(some 28), none, .call 15 []⟩,
         ⟨(some 4), none, .mov (.tmp 28)⟩]) (
       .ret)) (
      .skip))) (
    .seq (
     .region [
       ⟨(some 29), none, .mov (.tmp 0)⟩,
       ⟨(some 30), none, .mov (.tmp 1)⟩,
       ⟨(some 31), none, .call 29 [(.tmp 29), (.tmp 30)]⟩,
       ⟨(some 5), none, .mov (.tmp 31)⟩]) (
     .seq (
      .region [
        ⟨(some 33), none, .mov (.tmp 0)⟩,
        ⟨(some 34), none, .mov (.tmp 1)⟩,
        ⟨(some 35), none, .call 23 [(.tmp 33), (.tmp 34)]⟩,
        ⟨(some 32), none, .mov (.tmp 35)⟩,
        ⟨(some 36), none, .ext (.tmp 32) 0⟩,
        ⟨(some 37), none, .ext (.tmp 32) 1⟩,
        ⟨(some 6), none, .mov (.tmp 36)⟩,
        ⟨(some 7), none, .mov (.tmp 37)⟩]) (
      .seq (
       .region [
         ⟨(some 39), none, .mov (.tmp 0)⟩,
         ⟨(some 40), none, .mov (.tmp 1)⟩,
         ⟨(some 41), none, .call 25 [(.tmp 39), (.tmp 40)]⟩,
         ⟨(some 38), none, .mov (.tmp 41)⟩,
         ⟨(some 42), none, .ext (.tmp 38) 0⟩,
         ⟨(some 43), none, .ext (.tmp 38) 1⟩,
         ⟨(some 8), none, .mov (.tmp 42)⟩,
         ⟨(some 9), none, .mov (.tmp 43)⟩]) (
       .seq (
        .seq (
         .region [
           ⟨(some 44), none, .mov (.tmp 7)⟩,
           ⟨(some 45), none, .bin .neq (.tmp 44) (.cst (.p (.int .i64 0)))⟩,
           ⟨(some 46), none, .mov (.tmp 45)⟩,
           ⟨(some 47), (some (46, false)), .mov (.tmp 5)⟩,
           ⟨(some 48), (some (46, false)), .mov (.tmp 1)⟩,
           ⟨(some 49), (some (46, false)), .mov (.tmp 0)⟩,
           ⟨(some 50), (some (46, false)), .call 29 [(.tmp 48), (.tmp 49)]⟩,
           ⟨(some 51), (some (46, false)), .un .neg (.tmp 50)⟩,
           ⟨(some 52), (some (46, false)), .bin .neq (.tmp 47) (.tmp 51)⟩,
           ⟨(some 53), none, .pick (.tmp 46) (.cst (.p (.bool true))) (.tmp 52)⟩,
           ⟨(some 54), none, .mov (.tmp 53)⟩,
           ⟨(some 55), (some (54, false)), .mov (.tmp 5)⟩,
           ⟨(some 56), (some (54, false)), .bin .eql (.tmp 55) (.cst (.p (.int .i64 0)))⟩,
           ⟨(some 57), (some (54, false)), .mov (.tmp 0)⟩,
           ⟨(some 58), (some (54, false)), .mov (.tmp 1)⟩,
           ⟨(some 59), (some (54, false)), .call 19 [(.tmp 57), (.tmp 58)]⟩,
           ⟨(some 60), (some (54, false)), .eqB true (.tmp 56) (.tmp 59)⟩,
           ⟨(some 61), none, .pick (.tmp 54) (.cst (.p (.bool true))) (.tmp 60)⟩,
           ⟨(some 62), none, .mov (.tmp 61)⟩,
           ⟨(some 63), (some (62, false)), .mov (.tmp 6)⟩,
           ⟨(some 64), (some (62, false)), .mov (.tmp 0)⟩,
           ⟨(some 65), (some (62, false)), .call 29 [(.tmp 63), (.tmp 64)]⟩,
           ⟨(some 66), (some (62, false)), .bin .lss (.tmp 65) (.cst (.p (.int .i64 0)))⟩,
           ⟨(some 67), none, .pick (.tmp 62) (.cst (.p (.bool true))) (.tmp 66)⟩,
           ⟨(some 68), none, .mov (.tmp 67)⟩,
           ⟨(some 69), (some (68, false)), .mov (.tmp 6)⟩,
           ⟨(some 70), (some (68, false)), .mov (.tmp 1)⟩,
           ⟨(some 71), (some (68, false)), .call 29 [(.tmp 69), (.tmp 70)]⟩,
           ⟨(some 72), (some (68, false)), .bin .lss (.tmp 71) (.cst (.p (.int .i64 0)))⟩,
           ⟨(some 73), none, .pick (.tmp 68) (.cst (.p (.bool true))) (.tmp 72)⟩,
           ⟨(some 74), none, .mov (.tmp 73)⟩,
           ⟨(some 75), (some (74, false)), .mov (.tmp 9)⟩,
           ⟨(some 76), (some (74, false)), .bin .eql (.tmp 75) (.cst (.p (.int .i64 0)))⟩,
           ⟨(some 77), (some (74, false)), .mov (.tmp 5)⟩,
           ⟨(some 78), (some (74, false)), .bin .geq (.tmp 77) (.cst (.p (.int .i64 0)))⟩,
           ⟨(some 79), (some (74, false)), .eqB true (.tmp 76) (.tmp 78)⟩,
           ⟨(some 80), none, .pick (.tmp 74) (.cst (.p (.bool true))) (.tmp 79)⟩]) (
         .cond (.tmp 80) (
          .seq (
           .region [
             ⟨(some 4), none, .mov (.cst (.p (.bool false)))⟩]) (
           .ret)) (
          .skip))) (
        .seq (
         .region [
           ⟨(some 81), none, .mov (.tmp 0)⟩,
           ⟨(some 82), none, .len (.tmp 81)⟩,
           ⟨(some 83), none, .mov (.tmp 1)⟩,
           ⟨(some 84), none, .len (.tmp 83)⟩,
           ⟨(some 85), none, .bin .leq (.tmp 82) (.tmp 84)⟩,
           ⟨(some 86), none, .mov (.tmp 85)⟩,
           ⟨(some 87), (some (86, false)), .mov (.tmp 5)⟩,
           ⟨(some 88), (some (86, false)), .bin .eql (.tmp 87) (.cst (.p (.int .i64 1)))⟩,
           ⟨(some 89), none, .pick (.tmp 86) (.cst (.p (.bool true))) (.tmp 88)⟩,
           ⟨(some 90), none, .mov (.tmp 89)⟩,
           ⟨(some 91), (some (90, true)), .mov (.tmp 0)⟩,
           ⟨(some 92), (some (90, true)), .call 32 [(.tmp 91)]⟩,
           ⟨(some 93), (some (90, true)), .mov (.tmp 1)⟩,
           ⟨(some 94), (some (90, true)), .call 32 [(.tmp 93)]⟩,
           ⟨(some 95), (some (90, true)), .bin .leq (.tmp 92) (.tmp 94)⟩,
           ⟨(some 96), (some (90, true)), .mov (.tmp 95)⟩,
           ⟨(some 97), (some (96, false)), .mov (.tmp 5)⟩,
           ⟨(some 98), (some (96, false)), .bin .eql (.tmp 97) (.cst (.p (.int .i64 1)))⟩,
           ⟨(some 99), (some (90, true)), .pick (.tmp 96) (.cst (.p (.bool true))) (.tmp 98)⟩,
           ⟨(some 100), none, .pick (.tmp 90) (.tmp 99) (.cst (.p (.bool false)))⟩,
           ⟨(some 101), none, .mov (.tmp 100)⟩,
           ⟨(some 102), (some (101, true)), .call 15 []⟩,
           ⟨(some 103), none, .pick (.tmp 101) (.tmp 102) (.cst (.p (.bool false)))⟩,
           ⟨(some 4), none, .mov (.tmp 103)⟩]) (
         .ret))))))))⟩
theorem low6 : lowFunc Tryz.prog gl0 6 = some lf6 := by kernel_rfl
def lf7 : LFunc := ⟨146, [(.slot 4)], (
  .seq (
   .region [
     ⟨(some 4), none, .mov (.cst (.p (.bool false)))⟩]) (
   .seq (
    .seq (
     .region [
       ⟨(some 18), none, .mov (.tmp 0)⟩,
       ⟨(some 19), none, .len (.tmp 18)⟩,
       ⟨(some 20), none, .bin .gtr (.tmp 19) (.cst (.p (.int .i64 8)))⟩,
       ⟨(some 21), none, .mov (.tmp 20)⟩,
       ⟨(some 22), (some (21, false)), .mov (.tmp 0)⟩,
       ⟨(some 23), (some (21, false)), .call 21 [(.tmp 22)]⟩,
       ⟨(some 24), (some (21, false)), .un .not (.tmp 23)⟩,
       ⟨(some 25), none, .pick (.tmp 21) (.cst (.p (.bool true))) (.tmp 24)⟩,
       ⟨(some 26), none, .mov (.tmp 25)⟩,
       ⟨(some 27), (some (26, false)), .mov (.tmp 1)⟩,
       ⟨(some 28), (some (26, false)), .bin .lss (.tmp 27) (.cst (.p (.int .i64 0)))⟩,
       ⟨(some 29), none, .pick (.tmp 26) (.cst (.p (.bool true))) (.tmp 28)⟩,
       ⟨(some 30), none, .mov (.tmp 29)⟩,
       ⟨(some 31), (some (30, false)), .mov (.tmp 1)⟩,
       ⟨(some 32), (some (30, false)), .bin .gtr (.tmp 31) (.cst (.p (.int .i64 600)))⟩,
       ⟨(some 33), none, .pick (.tmp 30) (.cst (.p (.bool true))) (.tmp 32)⟩]) (
     .cond (.tmp 33) (
      .seq (
       .region [
         ⟨(some 34), none, .call 15 []⟩,
         ⟨(some 4), none, .mov (.tmp 34)⟩]) (
       .ret)) (
      .skip))) (
    .seq (
     .region [
       ⟨(some 36), none, .buildSl 1 40 (.p (.int .u64 0)) 1 [(0, (.cst (.p (.int .u64 1))))]⟩,
       ⟨(some 37), none, .mov (.tmp 1)⟩,
       ⟨(some 38), none, .call 33 [(.tmp 36), (.tmp 37)]⟩,
       ⟨(some 35), none, .mov (.tmp 38)⟩,
       ⟨(some 39), none, .ext (.tmp 35) 0⟩,
       ⟨(some 40), none, .ext (.tmp 35) 1⟩,
       ⟨(some 5), none, .mov (.tmp 39)⟩,
       ⟨(some 6), none, .mov (.tmp 40)⟩]) (
     .seq (
      .region [
        ⟨(some 42), none, .mov (.tmp 0)⟩,
        ⟨(some 43), none, .mov (.tmp 1)⟩,
        ⟨(some 44), none, .call 33 [(.tmp 42), (.tmp 43)]⟩,
        ⟨(some 41), none, .mov (.tmp 44)⟩,
        ⟨(some 45), none, .ext (.tmp 41) 0⟩,
        ⟨(some 46), none, .ext (.tmp 41) 1⟩,
        ⟨(some 7), none, .mov (.tmp 45)⟩,
        ⟨(some 8), none, .mov (.tmp 46)⟩]) (
      .seq (
       .region [
         ⟨(some 48), none, .mov (.tmp 0)⟩,
         ⟨(some 49), none, .mov (.tmp 5)⟩,
         ⟨(some 50), none, .call 27 [(.tmp 48), (.tmp 49)]⟩,
         ⟨(some 47), none, .mov (.tmp 50)⟩,
         ⟨(some 51), none, .ext (.tmp 47) 0⟩,
         ⟨(some 52), none, .ext (.tmp 47) 1⟩,
         ⟨(some 9), none, .mov (.tmp 51)⟩,
         ⟨(some 10), none, .mov (.tmp 52)⟩]) (
       .seq (
        .region [
          ⟨(some 54), none, .mov (.tmp 0)⟩,
          ⟨(some 55), none, .mov (.tmp 1)⟩,
          ⟨(some 56), none, .un .neg (.tmp 55)⟩,
          ⟨(some 57), none, .call 33 [(.tmp 54), (.tmp 56)]⟩,
          ⟨(some 53), none, .mov (.tmp 57)⟩,
          ⟨(some 58), none, .ext (.tmp 53) 0⟩,
          ⟨(some 59), none, .ext (.tmp 53) 1⟩,
          ⟨(some 11), none, .mov (.tmp 58)⟩,
          ⟨(some 12), none, .mov (.tmp 59)⟩]) (
        .seq (
         .region [
           ⟨(some 61), none, .mov (.tmp 0)⟩,
           ⟨(some 62), none, .mov (.tmp 5)⟩,
           ⟨(some 63), none, .call 34 [(.tmp 61), (.tmp 62)]⟩,
           ⟨(some 60), none, .mov (.tmp 63)⟩,
           ⟨(some 64), none, .ext (.tmp 60) 0⟩,
           ⟨(some 65), none, .ext (.tmp 60) 1⟩,
           ⟨(some 66), none, .ext (.tmp 60) 2⟩,
           ⟨(some 13), none, .mov (.tmp 64)⟩,
           ⟨(some 14), none, .mov (.tmp 65)⟩,
           ⟨(some 15), none, .mov (.tmp 66)⟩]) (
         .seq (
          .region [
            ⟨(some 68), none, .mov (.tmp 7)⟩,
            ⟨(some 69), none, .mov (.tmp 1)⟩,
            ⟨(some 70), none, .un .neg (.tmp 69)⟩,
            ⟨(some 71), none, .call 33 [(.tmp 68), (.tmp 70)]⟩,
            ⟨(some 67), none, .mov (.tmp 71)⟩,
            ⟨(some 72), none, .ext (.tmp 67) 0⟩,
            ⟨(some 73), none, .ext (.tmp 67) 1⟩,
            ⟨(some 16), none, .mov (.tmp 72)⟩,
            ⟨(some 17), none, .mov (.tmp 73)⟩]) (
          .seq (
           .seq (
            .region [
              ⟨(some 74), none, .mov (.tmp 6)⟩,
              ⟨(some 75), none, .bin .neq (.tmp 74) (.cst (.p (.int .i64 0)))⟩,
              ⟨(some 76), none, .mov (.tmp 75)⟩,
              ⟨(some 77), (some (76, false)), .mov (.tmp 8)⟩,
              ⟨(some 78), (some (76, false)), .bin .neq (.tmp 77) (.cst (.p (.int .i64 0)))⟩,
              ⟨(some 79), none, .pick (.tmp 76) (.cst (.p (.bool true))) (.tmp 78)⟩,
              ⟨(some 80), none, .mov (.tmp 79)⟩,
              ⟨(some 81), (some (80, false)), .mov (.tmp 10)⟩,
              ⟨(some 82), (some (80, false)), .bin .neq (.tmp 81) (.cst (.p (.int .i64 0)))⟩,
              ⟨(some 83), none, .pick (.tmp 80) (.cst (.p (.bool true))) (.tmp 82)⟩,
              ⟨(some 84), none, .mov (.tmp 83)⟩,
              ⟨(some 85), (some (84, false)), .mov (.tmp 12)⟩,
              ⟨(some 86), (some (84, false)), .bin .neq (.tmp 85) (.cst (.p (.int .i64 0)))⟩,
              ⟨(some 87), none, .pick (.tmp 84) (.cst (.p (.bool true))) (.tmp 86)⟩,
              ⟨(some 88), none, .mov (.tmp 87)⟩,
              ⟨(some 89), (some (88, false)), .mov (.tmp 15)⟩,
              ⟨(some 90), (some (88, false)), .bin .neq (.tmp 89) (.cst (.p (.int .i64 0)))⟩,
              ⟨(some 91), none, .pick (.tmp 88) (.cst (.p (.bool true))) (.tmp 90)⟩,
              ⟨(some 92), none, .mov (.tmp 91)⟩,
              ⟨(some 93), (some (92, false)), .mov (.tmp 17)⟩,
              ⟨(some 94), (some (92, false)), .bin .neq (.tmp 93) (.cst (.p (.int .i64 0)))⟩,
              ⟨(some 95), none, .pick (.tmp 92) (.cst (.p (.bool true))) (.tmp 94)⟩,
              ⟨(some 96), none, .mov (.tmp 95)⟩,
              ⟨(some 97), (some (96, false)), .mov (.tmp 7)⟩,
              ⟨(some 98), (some (96, false)), .mov (.tmp 9)⟩,
              ⟨(some 99), (some (96, false)), .call 19 [(.tmp 97), (.tmp 98)]⟩,
              ⟨(some 100), (some (96, false)), .un .not (.tmp 99)⟩,
              ⟨(some 101), none, .pick (.tmp 96) (.cst (.p (.bool true))) (.tmp 100)⟩,
              ⟨(some 102), none, .mov (.tmp 101)⟩,
              ⟨(some 103), (some (102, false)), .mov (.tmp 11)⟩,
              ⟨(some 104), (some (102, false)), .mov (.tmp 13)⟩,
              ⟨(some 105), (some (102, false)), .call 19 [(.tmp 103), (.tmp 104)]⟩,
              ⟨(some 106), (some (102, false)), .un .not (.tmp 105)⟩,
              ⟨(some 107), none, .pick (.tmp 102) (.cst (.p (.bool true))) (.tmp 106)⟩,
              ⟨(some 108), none, .mov (.tmp 107)⟩,
              ⟨(some 109), (some (108, false)), .mov (.tmp 16)⟩,
              ⟨(some 110), (some (108, false)), .mov (.tmp 0)⟩,
              ⟨(some 111), (some (108, false)), .call 19 [(.tmp 109), (.tmp 110)]⟩,
              ⟨(some 112), (some (108, false)), .un .not (.tmp 111)⟩,
              ⟨(some 113), none, .pick (.tmp 108) (.cst (.p (.bool true))) (.tmp 112)⟩,
              ⟨(some 114), none, .mov (.tmp 113)⟩,
              ⟨(some 115), (some (114, false)), .mov (.tmp 5)⟩,
              ⟨(some 116), (some (114, false)), .call 32 [(.tmp 115)]⟩,
              ⟨(some 117), (some (114, false)), .mov (.tmp 1)⟩,
              ⟨(some 118), (some (114, false)), .bin .add (.tmp 117) (.cst (.p (.int .i64 1)))⟩,
              ⟨(some 119), (some (114, false)), .bin .neq (.tmp 116) (.tmp 118)⟩,
              ⟨(some 120), none, .pick (.tmp 114) (.cst (.p (.bool true))) (.tmp 119)⟩]) (
            .cond (.tmp 120) (
             .seq (
              .region [
                ⟨(some 4), none, .mov (.cst (.p (.bool false)))⟩]) (
              .ret)) (
             .skip))) (
           .seq (
            .region [
              ⟨(some 121), none, .mov (.tmp 0)⟩,
              ⟨(some 122), none, .len (.tmp 121)⟩,
              ⟨(some 123), none, .bin .eql (.tmp 122) (.cst (.p (.int .i64 0)))⟩,
              ⟨(some 124), none, .mov (.tmp 123)⟩,
              ⟨(some 125), (some (124, true)), .mov (.tmp 7)⟩,
              ⟨(some 126), (some (124, true)), .call 32 [(.tmp 125)]⟩,
              ⟨(some 127), (some (124, true)), .bin .eql (.tmp 126) (.cst (.p (.int .i64 0)))⟩,
              ⟨(some 128), none, .pick (.tmp 124) (.tmp 127) (.cst (.p (.bool false)))⟩,
              ⟨(some 129), none, .mov (.tmp 128)⟩,
              ⟨(some 130), (some (129, false)), .mov (.tmp 0)⟩,
              ⟨(some 131), (some (129, false)), .len (.tmp 130)⟩,
              ⟨(some 132), (some (129, false)), .bin .gtr (.tmp 131) (.cst (.p (.int .i64 0)))⟩,
              ⟨(some 133), (some (129, false)), .mov (.tmp 132)⟩,
              ⟨(some 134), (some (133, true)), .mov (.tmp 7)⟩,
              ⟨(some 135), (some (133, true)), .call 32 [(.tmp 134)]⟩,
              ⟨(some 136), (some (133, true)), .mov (.tmp 0)⟩,
              ⟨(some 137), (some (133, true)), .call 32 [(.tmp 136)]⟩,
              ⟨(some 138), (some (133, true)), .mov (.tmp 1)⟩,
              ⟨(some 139), (some (133, true)), .bin .add (.tmp 137) (.tmp 138)⟩,
              ⟨(some 140), (some (133, true)), .bin .eql (.tmp 135) (.tmp 139)⟩,
              ⟨(some 141), (some (129, false)), .pick (.tmp 133) (.tmp 140) (.cst (.p (.bool false)))⟩,
              ⟨(some 142), none, .pick (.tmp 129) (.cst (.p (.bool true))) (.tmp 141)⟩,
              ⟨(some 143), none, .mov (.tmp 142)⟩,
              ⟨(some 144), (some (143, true)), .call 15 []⟩,
              ⟨(some 145), none, .pick (.tmp 143) (.tmp 144) (.cst (.p (.bool false)))⟩,
              ⟨(some 4), none, .mov (.tmp 145)⟩]) (
            .ret)))))))))))⟩
theorem low7 : lowFunc Tryz.prog gl0 7 = some lf7 := by kernel_rfl
def lf8 : LFunc := ⟨148, [(.slot 4)], (
  .seq (
   .region [
     ⟨(some 4), none, .mov (.cst (.p (.bool false)))⟩]) (
   .seq (
    .seq (
     .region [
       ⟨(some 22), none, .mov (.tmp 0)⟩,
       ⟨(some 23), none, .len (.tmp 22)⟩,
       ⟨(some 24), none, .bin .gtr (.tmp 23) (.cst (.p (.int .i64 8)))⟩,
       ⟨(some 25), none, .mov (.tmp 24)⟩,
       ⟨(some 26), (some (25, false)), .mov (.tmp 1)⟩,
       ⟨(some 27), (some (25, false)), .len (.tmp 26)⟩,
       ⟨(some 28), (some (25, false)), .bin .gtr (.tmp 27) (.cst (.p (.int .i64 8)))⟩,
       ⟨(some 29), none, .pick (.tmp 25) (.cst (.p (.bool true))) (.tmp 28)⟩,
       ⟨(some 30), none, .mov (.tmp 29)⟩,
       ⟨(some 31), (some (30, false)), .mov (.tmp 0)⟩,
       ⟨(some 32), (some (30, false)), .call 21 [(.tmp 31)]⟩,
       ⟨(some 33), (some (30, false)), .un .not (.tmp 32)⟩,
       ⟨(some 34), none, .pick (.tmp 30) (.cst (.p (.bool true))) (.tmp 33)⟩,
       ⟨(some 35), none, .mov (.tmp 34)⟩,
       ⟨(some 36), (some (35, false)), .mov (.tmp 1)⟩,
       ⟨(some 37), (some (35, false)), .call 21 [(.tmp 36)]⟩,
       ⟨(some 38), (some (35, false)), .un .not (.tmp 37)⟩,
       ⟨(some 39), none, .pick (.tmp 35) (.cst (.p (.bool true))) (.tmp 38)⟩,
       ⟨(some 40), none, .mov (.tmp 39)⟩,
       ⟨(some 41), (some (40, false)), .mov (.tmp 1)⟩,
       ⟨(some 42), (some (40, false)), .len (.tmp 41)⟩,
       ⟨(some 43), (some (40, false)), .bin .eql (.tmp 42) (.cst (.p (.int .i64 0)))⟩,
       ⟨(some 44), none, .pick (.tmp 40) (.cst (.p (.bool true))) (.tmp 43)⟩]) (
     .cond (.tmp 44) (
      .seq (
       .region [
         ⟨(some 45), none, .call 15 []⟩,
         ⟨(some 4), none, .mov (.tmp 45)⟩]) (
       .ret)) (
      .skip))) (
    .seq (
     .region [
       ⟨(some 47), none, .mov (.tmp 0)⟩,
       ⟨(some 48), none, .mov (.tmp 1)⟩,
       ⟨(some 49), none, .call 34 [(.tmp 47), (.tmp 48)]⟩,
       ⟨(some 46), none, .mov (.tmp 49)⟩,
       ⟨(some 50), none, .ext (.tmp 46) 0⟩,
       ⟨(some 51), none, .ext (.tmp 46) 1⟩,
       ⟨(some 52), none, .ext (.tmp 46) 2⟩,
       ⟨(some 5), none, .mov (.tmp 50)⟩,
       ⟨(some 6), none, .mov (.tmp 51)⟩,
       ⟨(some 7), none, .mov (.tmp 52)⟩]) (
     .seq (
      .region [
        ⟨(some 54), none, .mov (.tmp 5)⟩,
        ⟨(some 55), none, .mov (.tmp 1)⟩,
        ⟨(some 56), none, .call 27 [(.tmp 54), (.tmp 55)]⟩,
        ⟨(some 53), none, .mov (.tmp 56)⟩,
        ⟨(some 57), none, .ext (.tmp 53) 0⟩,
        ⟨(some 58), none, .ext (.tmp 53) 1⟩,
        ⟨(some 8), none, .mov (.tmp 57)⟩,
        ⟨(some 9), none, .mov (.tmp 58)⟩]) (
      .seq (
       .region [
         ⟨(some 60), none, .mov (.tmp 8)⟩,
         ⟨(some 61), none, .mov (.tmp 6)⟩,
         ⟨(some 62), none, .call 23 [(.tmp 60), (.tmp 61)]⟩,
         ⟨(some 59), none, .mov (.tmp 62)⟩,
         ⟨(some 63), none, .ext (.tmp 59) 0⟩,
         ⟨(some 64), none, .ext (.tmp 59) 1⟩,
         ⟨(some 10), none, .mov (.tmp 63)⟩,
         ⟨(some 11), none, .mov (.tmp 64)⟩]) (
       .seq (
        .seq (
         .region [
           ⟨(some 65), none, .mov (.tmp 7)⟩,
           ⟨(some 66), none, .bin .neq (.tmp 65) (.cst (.p (.int .i64 0)))⟩,
           ⟨(some 67), none, .mov (.tmp 66)⟩,
           ⟨(some 68), (some (67, false)), .mov (.tmp 9)⟩,
           ⟨(some 69), (some (67, false)), .bin .neq (.tmp 68) (.cst (.p (.int .i64 0)))⟩,
           ⟨(some 70), none, .pick (.tmp 67) (.cst (.p (.bool true))) (.tmp 69)⟩,
           ⟨(some 71), none, .mov (.tmp 70)⟩,
           ⟨(some 72), (some (71, false)), .mov (.tmp 11)⟩,
           ⟨(some 73), (some (71, false)), .bin .neq (.tmp 72) (.cst (.p (.int .i64 0)))⟩,
           ⟨(some 74), none, .pick (.tmp 71) (.cst (.p (.bool true))) (.tmp 73)⟩,
           ⟨(some 75), none, .mov (.tmp 74)⟩,
           ⟨(some 76), (some (75, false)), .mov (.tmp 10)⟩,
           ⟨(some 77), (some (75, false)), .mov (.tmp 0)⟩,
           ⟨(some 78), (some (75, false)), .call 19 [(.tmp 76), (.tmp 77)]⟩,
           ⟨(some 79), (some (75, false)), .un .not (.tmp 78)⟩,
           ⟨(some 80), none, .pick (.tmp 75) (.cst (.p (.bool true))) (.tmp 79)⟩,
           ⟨(some 81), none, .mov (.tmp 80)⟩,
           ⟨(some 82), (some (81, false)), .mov (.tmp 6)⟩,
           ⟨(some 83), (some (81, false)), .mov (.tmp 1)⟩,
           ⟨(some 84), (some (81, false)), .call 29 [(.tmp 82), (.tmp 83)]⟩,
           ⟨(some 85), (some (81, false)), .bin .geq (.tmp 84) (.cst (.p (.int .i64 0)))⟩,
           ⟨(some 86), none, .pick (.tmp 81) (.cst (.p (.bool true))) (.tmp 85)⟩]) (
         .cond (.tmp 86) (
          .seq (
           .region [
             ⟨(some 4), none, .mov (.cst (.p (.bool false)))⟩]) (
           .ret)) (
          .skip))) (
        .seq (
         .region [
           ⟨(some 88), none, .mov (.tmp 0)⟩,
           ⟨(some 89), none, .mov (.tmp 1)⟩,
           ⟨(some 90), none, .call 35 [(.tmp 88), (.tmp 89)]⟩,
           ⟨(some 87), none, .mov (.tmp 90)⟩,
           ⟨(some 91), none, .ext (.tmp 87) 0⟩,
           ⟨(some 92), none, .ext (.tmp 87) 1⟩,
           ⟨(some 12), none, .mov (.tmp 91)⟩,
           ⟨(some 13), none, .mov (.tmp 92)⟩]) (
         .seq (
          .seq (
           .region [
             ⟨(some 93), none, .mov (.tmp 13)⟩,
             ⟨(some 94), none, .bin .neq (.tmp 93) (.cst (.p (.int .i64 0)))⟩,
             ⟨(some 95), none, .mov (.tmp 94)⟩,
             ⟨(some 96), (some (95, false)), .mov (.tmp 12)⟩,
             ⟨(some 97), (some (95, false)), .len (.tmp 96)⟩,
             ⟨(some 98), (some (95, false)), .bin .eql (.tmp 97) (.cst (.p (.int .i64 0)))⟩,
             ⟨(some 99), none, .pick (.tmp 95) (.cst (.p (.bool true))) (.tmp 98)⟩]) (
           .cond (.tmp 99) (
            .seq (
             .region [
               ⟨(some 4), none, .mov (.cst (.p (.bool false)))⟩]) (
             .ret)) (
            .skip))) (
          .seq (
           .region [
             ⟨(some 101), none, .mov (.tmp 0)⟩,
             ⟨(some 102), none, .mov (.tmp 12)⟩,
             ⟨(some 103), none, .call 34 [(.tmp 101), (.tmp 102)]⟩,
             ⟨(some 100), none, .mov (.tmp 103)⟩,
             ⟨(some 104), none, .ext (.tmp 100) 0⟩,
             ⟨(some 105), none, .ext (.tmp 100) 1⟩,
             ⟨(some 106), none, .ext (.tmp 100) 2⟩,
             ⟨(some 14), none, .mov (.tmp 104)⟩,
             ⟨(some 15), none, .mov (.tmp 105)⟩,
             ⟨(some 16), none, .mov (.tmp 106)⟩]) (
           .seq (
            .region [
              ⟨(some 108), none, .mov (.tmp 1)⟩,
              ⟨(some 109), none, .mov (.tmp 12)⟩,
              ⟨(some 110), none, .call 34 [(.tmp 108), (.tmp 109)]⟩,
              ⟨(some 107), none, .mov (.tmp 110)⟩,
              ⟨(some 111), none, .ext (.tmp 107) 0⟩,
              ⟨(some 112), none, .ext (.tmp 107) 1⟩,
              ⟨(some 113), none, .ext (.tmp 107) 2⟩,
              ⟨(some 17), none, .mov (.tmp 111)⟩,
              ⟨(some 18), none, .mov (.tmp 112)⟩,
              ⟨(some 19), none, .mov (.tmp 113)⟩]) (
            .seq (
             .region [
               ⟨(some 115), none, .mov (.tmp 14)⟩,
               ⟨(some 116), none, .mov (.tmp 17)⟩,
               ⟨(some 117), none, .call 35 [(.tmp 115), (.tmp 116)]⟩,
               ⟨(some 114), none, .mov (.tmp 117)⟩,
               ⟨(some 118), none, .ext (.tmp 114) 0⟩,
               ⟨(some 119), none, .ext (.tmp 114) 1⟩,
               ⟨(some 20), none, .mov (.tmp 118)⟩,
               ⟨(some 21), none, .mov (.tmp 119)⟩]) (
             .seq (
              .region [
                ⟨(some 120), none, .mov (.tmp 16)⟩,
                ⟨(some 121), none, .bin .eql (.tmp 120) (.cst (.p (.int .i64 0)))⟩,
                ⟨(some 122), none, .mov (.tmp 121)⟩,
                ⟨(some 123), (some (122, true)), .mov (.tmp 19)⟩,
                ⟨(some 124), (some (122, true)), .bin .eql (.tmp 123) (.cst (.p (.int .i64 0)))⟩,
                ⟨(some 125), none, .pick (.tmp 122) (.tmp 124) (.cst (.p (.bool false)))⟩,
                ⟨(some 126), none, .mov (.tmp 125)⟩,
                ⟨(some 127), (some (126, true)), .mov (.tmp 21)⟩,
                ⟨(some 128), (some (126, true)), .bin .eql (.tmp 127) (.cst (.p (.int .i64 0)))⟩,
                ⟨(some 129), none, .pick (.tmp 126) (.tmp 128) (.cst (.p (.bool false)))⟩,
                ⟨(some 130), none, .mov (.tmp 129)⟩,
                ⟨(some 131), (some (130, true)), .mov (.tmp 15)⟩,
                ⟨(some 132), (some (130, true)), .len (.tmp 131)⟩,
                ⟨(some 133), (some (130, true)), .bin .eql (.tmp 132) (.cst (.p (.int .i64 0)))⟩,
                ⟨(some 134), none, .pick (.tmp 130) (.tmp 133) (.cst (.p (.bool false)))⟩,
                ⟨(some 135), none, .mov (.tmp 134)⟩,
                ⟨(some 136), (some (135, true)), .mov (.tmp 18)⟩,
                ⟨(some 137), (some (135, true)), .len (.tmp 136)⟩,
                ⟨(some 138), (some (135, true)), .bin .eql (.tmp 137) (.cst (.p (.int .i64 0)))⟩,
                ⟨(some 139), none, .pick (.tmp 135) (.tmp 138) (.cst (.p (.bool false)))⟩,
                ⟨(some 140), none, .mov (.tmp 139)⟩,
                ⟨(some 141), (some (140, true)), .mov (.tmp 20)⟩,
                ⟨(some 142), (some (140, true)), .buildSl 1 40 (.p (.int .u64 0)) 1 [(0, (.cst (.p (.int .u64 1))))]⟩,
                ⟨(some 143), (some (140, true)), .call 19 [(.tmp 141), (.tmp 142)]⟩,
                ⟨(some 144), none, .pick (.tmp 140) (.tmp 143) (.cst (.p (.bool false)))⟩,
                ⟨(some 145), none, .mov (.tmp 144)⟩,
                ⟨(some 146), (some (145, true)), .call 15 []⟩,
                ⟨(some 147), none, .pick (.tmp 145) (.tmp 146) (.cst (.p (.bool false)))⟩,
                ⟨(some 4), none, .mov (.tmp 147)⟩]) (
              .ret)))))))))))))⟩
theorem low8 : lowFunc Tryz.prog gl0 8 = some lf8 := by kernel_rfl
def lf9 : LFunc := ⟨175, [(.slot 4)], (
  .seq (
   .region [
     ⟨(some 4), none, .mov (.cst (.p (.bool false)))⟩]) (
   .seq (
    .seq (
     .region [
       ⟨(some 13), none, .mov (.tmp 0)⟩,
       ⟨(some 14), none, .bin .lss (.tmp 13) (.cst (.p (.int .i64 1)))⟩,
       ⟨(some 15), none, .mov (.tmp 14)⟩,
       ⟨(some 16), (some (15, false)), .mov (.tmp 0)⟩,
       ⟨(some 17), (some (15, false)), .bin .gtr (.tmp 16) (.cst (.p (.int .i64 70)))⟩,
       ⟨(some 18), none, .pick (.tmp 15) (.cst (.p (.bool true))) (.tmp 17)⟩,
       ⟨(some 19), none, .mov (.tmp 18)⟩,
       ⟨(some 20), (some (19, false)), .mov (.tmp 1)⟩,
       ⟨(some 21), (some (19, false)), .bin .lss (.tmp 20) (.cst (.p (.int .i64 0)))⟩,
       ⟨(some 22), none, .pick (.tmp 19) (.cst (.p (.bool true))) (.tmp 21)⟩,
       ⟨(some 23), none, .mov (.tmp 22)⟩,
       ⟨(some 24), (some (23, false)), .mov (.tmp 1)⟩,
       ⟨(some 25), (some (23, false)), .bin .gtr (.tmp 24) (.cst (.p (.int .i64 70)))⟩,
       ⟨(some 26), none, .pick (.tmp 23) (.cst (.p (.bool true))) (.tmp 25)⟩]) (
     .cond (.tmp 26) (
      .seq (
       .region [
         ⟨(some 27), none, .call 15 []⟩,
         ⟨(some 4), none, .mov (.tmp 27)⟩]) (
       .ret)) (
      .skip))) (
    .seq (
     .region [
       ⟨(some 28), none, .mov (.tmp 0)⟩,
       ⟨(some 29), none, .mksl 1 8 40 (.p (.int .u64 0)) (.tmp 28) (.tmp 28)⟩,
       ⟨(some 5), none, .mov (.tmp 29)⟩]) (
     .seq (
      .region [
        ⟨(some 30), none, .mov (.tmp 5)⟩,
        ⟨(some 31), none, .mov (.tmp 0)⟩,
        ⟨(some 32), none, .bin .sub (.tmp 31) (.cst (.p (.int .i64 1)))⟩,
        ⟨(some 33), none, .iadr 1 (.tmp 30) (.tmp 32)⟩,
        ⟨none, none, .store 1 (.tmp 33) (.cst (.p (.int .u64 9223372036854775808)))⟩]) (
      .seq (
       .region [
         ⟨(some 34), none, .mov (.tmp 1)⟩,
         ⟨(some 35), none, .bin .add (.tmp 34) (.cst (.p (.int .i64 1)))⟩,
         ⟨(some 36), none, .mksl 1 8 40 (.p (.int .u64 0)) (.tmp 35) (.tmp 35)⟩,
         ⟨(some 6), none, .mov (.tmp 36)⟩]) (
       .seq (
        .region [
          ⟨(some 37), none, .mov (.tmp 6)⟩,
          ⟨(some 38), none, .mov (.tmp 1)⟩,
          ⟨(some 39), none, .iadr 1 (.tmp 37) (.tmp 38)⟩,
          ⟨none, none, .store 1 (.tmp 39) (.cst (.p (.int .u64 1)))⟩]) (
        .seq (
         .region [
           ⟨(some 41), none, .mov (.tmp 5)⟩,
           ⟨(some 42), none, .mov (.tmp 5)⟩,
           ⟨(some 43), none, .call 23 [(.tmp 41), (.tmp 42)]⟩,
           ⟨(some 40), none, .mov (.tmp 43)⟩,
           ⟨(some 44), none, .ext (.tmp 40) 0⟩,
           ⟨(some 45), none, .ext (.tmp 40) 1⟩,
           ⟨(some 7), none, .mov (.tmp 44)⟩,
           ⟨(some 8), none, .mov (.tmp 45)⟩]) (
         .seq (
          .region [
            ⟨(some 47), none, .mov (.tmp 5)⟩,
            ⟨(some 48), none, .mov (.tmp 6)⟩,
            ⟨(some 49), none, .call 27 [(.tmp 47), (.tmp 48)]⟩,
            ⟨(some 46), none, .mov (.tmp 49)⟩,
            ⟨(some 50), none, .ext (.tmp 46) 0⟩,
            ⟨(some 51), none, .ext (.tmp 46) 1⟩,
            ⟨(some 9), none, .mov (.tmp 50)⟩,
            ⟨(some 10), none, .mov (.tmp 51)⟩]) (
          .seq (
           .region [
             ⟨(some 53), none, .mov (.tmp 6)⟩,
             ⟨(some 54), none, .mov (.tmp 0)⟩,
             ⟨(some 55), none, .bin .sub (.tmp 54) (.cst (.p (.int .i64 1)))⟩,
             ⟨(some 56), none, .bin .mul (.cst (.p (.int .i64 64))) (.tmp 55)⟩,
             ⟨(some 57), none, .call 33 [(.tmp 53), (.tmp 56)]⟩,
             ⟨(some 52), none, .mov (.tmp 57)⟩,
             ⟨(some 58), none, .ext (.tmp 52) 0⟩,
             ⟨(some 59), none, .ext (.tmp 52) 1⟩,
             ⟨(some 11), none, .mov (.tmp 58)⟩,
             ⟨(some 12), none, .mov (.tmp 59)⟩]) (
           .seq (
            .seq (
             .region [
               ⟨(some 60), none, .mov (.tmp 0)⟩,
               ⟨(some 61), none, .bin .gtr (.tmp 60) (.cst (.p (.int .i64 64)))⟩,
               ⟨(some 62), none, .mov (.tmp 61)⟩,
               ⟨(some 63), (some (62, false)), .mov (.tmp 1)⟩,
               ⟨(some 64), (some (62, false)), .bin .add (.tmp 63) (.cst (.p (.int .i64 1)))⟩,
               ⟨(some 65), (some (62, false)), .bin .gtr (.tmp 64) (.cst (.p (.int .i64 64)))⟩,
               ⟨(some 66), none, .pick (.tmp 62) (.cst (.p (.bool true))) (.tmp 65)⟩]) (
             .cond (.tmp 66) (
              .seq (
               .region [
                 ⟨(some 67), none, .mov (.tmp 0)⟩,
                 ⟨(some 68), none, .bin .leq (.tmp 67) (.cst (.p (.int .i64 64)))⟩,
                 ⟨(some 69), none, .mov (.tmp 68)⟩,
                 ⟨(some 70), (some (69, false)), .mov (.tmp 8)⟩,
                 ⟨(some 71), (some (69, false)), .bin .eql (.tmp 70) (.cst (.p (.int .i64 1)))⟩,
                 ⟨(some 72), (some (69, false)), .mov (.tmp 71)⟩,
                 ⟨(some 73), (some (72, true)), .mov (.tmp 7)⟩,
                 ⟨(some 74), (some (72, true)), .len (.tmp 73)⟩,
                 ⟨(some 75), (some (72, true)), .bin .eql (.tmp 74) (.cst (.p (.int .i64 0)))⟩,
                 ⟨(some 76), (some (69, false)), .pick (.tmp 72) (.tmp 75) (.cst (.p (.bool false)))⟩,
                 ⟨(some 77), none, .pick (.tmp 69) (.cst (.p (.bool true))) (.tmp 76)⟩,
                 ⟨(some 78), none, .mov (.tmp 77)⟩,
                 ⟨(some 79), (some (78, true)), .mov (.tmp 10)⟩,
                 ⟨(some 80), (some (78, true)), .bin .eql (.tmp 79) (.cst (.p (.int .i64 1)))⟩,
                 ⟨(some 81), none, .pick (.tmp 78) (.tmp 80) (.cst (.p (.bool false)))⟩,
                 ⟨(some 82), none, .mov (.tmp 81)⟩,
                 ⟨(some 83), (some (82, true)), .mov (.tmp 9)⟩,
                 ⟨(some 84), (some (82, true)), .len (.tmp 83)⟩,
                 ⟨(some 85), (some (82, true)), .bin .eql (.tmp 84) (.cst (.p (.int .i64 0)))⟩,
                 ⟨(some 86), none, .pick (.tmp 82) (.tmp 85) (.cst (.p (.bool false)))⟩,
                 ⟨(some 87), none, .mov (.tmp 86)⟩,
                 ⟨(some 88), (some (87, true)), .call 15 []⟩,
                 ⟨(some 89), none, .pick (.tmp 87) (.tmp 88) (.cst (.p (.bool false)))⟩,
                 ⟨(some 4), none, .mov (.tmp 89)⟩]) (
               .ret)) (
              .skip))) (
            .seq (
             .seq (
              .region [
                ⟨(some 90), none, .mov (.tmp 8)⟩,
                ⟨(some 91), none, .bin .eql (.tmp 90) (.cst (.p (.int .i64 0)))⟩,
                ⟨(some 92), none, .mov (.tmp 0)⟩,
                ⟨(some 93), none, .bin .lss (.tmp 92) (.cst (.p (.int .i64 64)))⟩,
                ⟨(some 94), none, .eqB true (.tmp 91) (.tmp 93)⟩,
                ⟨(some 95), none, .mov (.tmp 94)⟩,
                ⟨(some 96), (some (95, false)), .mov (.tmp 0)⟩,
                ⟨(some 97), (some (95, false)), .bin .eql (.tmp 96) (.cst (.p (.int .i64 64)))⟩,
                ⟨(some 98), (some (95, false)), .mov (.tmp 97)⟩,
                ⟨(some 99), (some (98, true)), .mov (.tmp 8)⟩,
                ⟨(some 100), (some (98, true)), .bin .neq (.tmp 99) (.cst (.p (.int .i64 4)))⟩,
                ⟨(some 101), (some (98, true)), .mov (.tmp 100)⟩,
                ⟨(some 102), (some (101, false)), .mov (.tmp 7)⟩,
                ⟨(some 103), (some (101, false)), .len (.tmp 102)⟩,
                ⟨(some 104), (some (101, false)), .bin .neq (.tmp 103) (.cst (.p (.int .i64 0)))⟩,
                ⟨(some 105), (some (98, true)), .pick (.tmp 101) (.cst (.p (.bool true))) (.tmp 104)⟩,
                ⟨(some 106), (some (95, false)), .pick (.tmp 98) (.tmp 105) (.cst (.p (.bool false)))⟩,
                ⟨(some 107), none, .pick (.tmp 95) (.cst (.p (.bool true))) (.tmp 106)⟩,
                ⟨(some 108), none, .mov (.tmp 107)⟩,
                ⟨(some 109), (some (108, false)), .mov (.tmp 10)⟩,
                ⟨(some 110), (some (108, false)), .bin .eql (.tmp 109) (.cst (.p (.int .i64 0)))⟩,
                ⟨(some 111), (some (108, false)), .mov (.tmp 0)⟩,
                ⟨(some 112), (some (108, false)), .mov (.tmp 1)⟩,
                ⟨(some 113), (some (108, false)), .bin .add (.tmp 111) (.tmp 112)⟩,
                ⟨(some 114), (some (108, false)), .bin .leq (.tmp 113) (.cst (.p (.int .i64 64)))⟩,
                ⟨(some 115), (some (108, false)), .eqB true (.tmp 110) (.tmp 114)⟩,
                ⟨(some 116), none, .pick (.tmp 108) (.cst (.p (.bool true))) (.tmp 115)⟩,
                ⟨(some 117), none, .mov (.tmp 116)⟩,
                ⟨(some 118), (some (117, false)), .mov (.tmp 10)⟩,
                ⟨(some 119), (some (117, false)), .bin .neq (.tmp 118) (.cst (.p (.int .i64 0)))⟩,
                ⟨(some 120), (some (117, false)), .mov (.tmp 119)⟩,
                ⟨(some 121), (some (120, true)), .mov (.tmp 10)⟩,
                ⟨(some 122), (some (120, true)), .bin .neq (.tmp 121) (.cst (.p (.int .i64 4)))⟩,
                ⟨(some 123), (some (120, true)), .mov (.tmp 122)⟩,
                ⟨(some 124), (some (123, false)), .mov (.tmp 9)⟩,
                ⟨(some 125), (some (123, false)), .len (.tmp 124)⟩,
                ⟨(some 126), (some (123, false)), .bin .neq (.tmp 125) (.cst (.p (.int .i64 0)))⟩,
                ⟨(some 127), (some (120, true)), .pick (.tmp 123) (.cst (.p (.bool true))) (.tmp 126)⟩,
                ⟨(some 128), (some (117, false)), .pick (.tmp 120) (.tmp 127) (.cst (.p (.bool false)))⟩,
                ⟨(some 129), none, .pick (.tmp 117) (.cst (.p (.bool true))) (.tmp 128)⟩,
                ⟨(some 130), none, .mov (.tmp 129)⟩,
                ⟨(some 131), (some (130, false)), .mov (.tmp 12)⟩,
                ⟨(some 132), (some (130, false)), .bin .eql (.tmp 131) (.cst (.p (.int .i64 0)))⟩,
                ⟨(some 133), (some (130, false)), .mov (.tmp 0)⟩,
                ⟨(some 134), (some (130, false)), .mov (.tmp 1)⟩,
                ⟨(some 135), (some (130, false)), .bin .add (.tmp 133) (.tmp 134)⟩,
                ⟨(some 136), (some (130, false)), .bin .leq (.tmp 135) (.cst (.p (.int .i64 64)))⟩,
                ⟨(some 137), (some (130, false)), .eqB true (.tmp 132) (.tmp 136)⟩,
                ⟨(some 138), none, .pick (.tmp 130) (.cst (.p (.bool true))) (.tmp 137)⟩]) (
              .cond (.tmp 138) (
               .seq (
                .region [
                  ⟨(some 4), none, .mov (.cst (.p (.bool false)))⟩]) (
                .ret)) (
               .skip))) (
             .seq (
              .region [
                ⟨(some 139), none, .mov (.tmp 8)⟩,
                ⟨(some 140), none, .bin .neq (.tmp 139) (.cst (.p (.int .i64 0)))⟩,
                ⟨(some 141), none, .mov (.tmp 140)⟩,
                ⟨(some 142), (some (141, false)), .mov (.tmp 7)⟩,
                ⟨(some 143), (some (141, false)), .len (.tmp 142)⟩,
                ⟨(some 144), (some (141, false)), .mov (.tmp 0)⟩,
                ⟨(some 145), (some (141, false)), .bin .add (.tmp 144) (.cst (.p (.int .i64 1)))⟩,
                ⟨(some 146), (some (141, false)), .bin .eql (.tmp 143) (.tmp 145)⟩,
                ⟨(some 147), none, .pick (.tmp 141) (.cst (.p (.bool true))) (.tmp 146)⟩,
                ⟨(some 148), none, .mov (.tmp 147)⟩,
                ⟨(some 149), (some (148, true)), .mov (.tmp 10)⟩,
                ⟨(some 150), (some (148, true)), .bin .neq (.tmp 149) (.cst (.p (.int .i64 0)))⟩,
                ⟨(some 151), (some (148, true)), .mov (.tmp 150)⟩,
                ⟨(some 152), (some (151, false)), .mov (.tmp 9)⟩,
                ⟨(some 153), (some (151, false)), .len (.tmp 152)⟩,
                ⟨(some 154), (some (151, false)), .mov (.tmp 0)⟩,
                ⟨(some 155), (some (151, false)), .mov (.tmp 1)⟩,
                ⟨(some 156), (some (151, false)), .bin .add (.tmp 154) (.tmp 155)⟩,
                ⟨(some 157), (some (151, false)), .bin .eql (.tmp 153) (.tmp 156)⟩,
                ⟨(some 158), (some (148, true)), .pick (.tmp 151) (.cst (.p (.bool true))) (.tmp 157)⟩,
                ⟨(some 159), none, .pick (.tmp 148) (.tmp 158) (.cst (.p (.bool false)))⟩,
                ⟨(some 160), none, .mov (.tmp 159)⟩,
                ⟨(some 161), (some (160, true)), .mov (.tmp 12)⟩,
                ⟨(some 162), (some (160, true)), .bin .neq (.tmp 161) (.cst (.p (.int .i64 0)))⟩,
                ⟨(some 163), (some (160, true)), .mov (.tmp 162)⟩,
                ⟨(some 164), (some (163, false)), .mov (.tmp 11)⟩,
                ⟨(some 165), (some (163, false)), .len (.tmp 164)⟩,
                ⟨(some 166), (some (163, false)), .mov (.tmp 0)⟩,
                ⟨(some 167), (some (163, false)), .mov (.tmp 1)⟩,
                ⟨(some 168), (some (163, false)), .bin .add (.tmp 166) (.tmp 167)⟩,
                ⟨(some 169), (some (163, false)), .bin .eql (.tmp 165) (.tmp 168)⟩,
                ⟨(some 170), (some (160, true)), .pick (.tmp 163) (.cst (.p (.bool true))) (.tmp 169)⟩,
                ⟨(some 171), none, .pick (.tmp 160) (.tmp 170) (.cst (.p (.bool false)))⟩,
                ⟨(some 172), none, .mov (.tmp 171)⟩,
                ⟨(some 173), (some (172, true)), .call 15 []⟩,
                ⟨(some 174), none, .pick (.tmp 172) (.tmp 173) (.cst (.p (.bool false)))⟩,
                ⟨(some 4), none, .mov (.tmp 174)⟩]) (
              .ret)))))))))))))⟩
theorem low9 : lowFunc Tryz.prog gl0 9 = some lf9 := by kernel_rfl
def lf10 : LFunc := ⟨123, [(.slot 6)], (
  .seq (
   .region [
     ⟨(some 6), none, .mov (.cst (.p (.bool false)))⟩]) (
   .seq (
    .seq (
     .region [
       ⟨(some 21), none, .mov (.tmp 0)⟩,
       ⟨(some 22), none, .len (.tmp 21)⟩,
       ⟨(some 23), none, .bin .gtr (.tmp 22) (.cst (.p (.int .i64 12)))⟩,
       ⟨(some 24), none, .mov (.tmp 23)⟩,
       ⟨(some 25), (some (24, false)), .mov (.tmp 1)⟩,
       ⟨(some 26), (some (24, false)), .len (.tmp 25)⟩,
       ⟨(some 27), (some (24, false)), .bin .gtr (.tmp 26) (.cst (.p (.int .i64 12)))⟩,
       ⟨(some 28), none, .pick (.tmp 24) (.cst (.p (.bool true))) (.tmp 27)⟩]) (
     .cond (.tmp 28) (
      .seq (
       .region [
         ⟨(some 29), none, .call 15 []⟩,
         ⟨(some 6), none, .mov (.tmp 29)⟩]) (
       .ret)) (
      .skip))) (
    .seq (
     .region [
       ⟨(some 31), none, .mov (.tmp 0)⟩,
       ⟨(some 32), none, .mov (.tmp 1)⟩,
       ⟨(some 33), none, .call 34 [(.tmp 31), (.tmp 32)]⟩,
       ⟨(some 30), none, .mov (.tmp 33)⟩,
       ⟨(some 34), none, .ext (.tmp 30) 0⟩,
       ⟨(some 35), none, .ext (.tmp 30) 1⟩,
       ⟨(some 36), none, .ext (.tmp 30) 2⟩,
       ⟨(some 7), none, .mov (.tmp 34)⟩,
       ⟨(some 8), none, .mov (.tmp 35)⟩,
       ⟨(some 9), none, .mov (.tmp 36)⟩]) (
     .seq (
      .region [
        ⟨(some 38), none, .mov (.tmp 0)⟩,
        ⟨(some 39), none, .mov (.tmp 1)⟩,
        ⟨(some 40), none, .call 36 [(.tmp 38), (.tmp 39)]⟩,
        ⟨(some 37), none, .mov (.tmp 40)⟩,
        ⟨(some 41), none, .ext (.tmp 37) 0⟩,
        ⟨(some 42), none, .ext (.tmp 37) 1⟩,
        ⟨(some 43), none, .ext (.tmp 37) 2⟩,
        ⟨(some 10), none, .mov (.tmp 41)⟩,
        ⟨(some 11), none, .mov (.tmp 42)⟩,
        ⟨(some 12), none, .mov (.tmp 43)⟩]) (
      .seq (
       .region [
         ⟨(some 45), none, .mov (.tmp 0)⟩,
         ⟨(some 46), none, .mov (.tmp 1)⟩,
         ⟨(some 47), none, .call 35 [(.tmp 45), (.tmp 46)]⟩,
         ⟨(some 44), none, .mov (.tmp 47)⟩,
         ⟨(some 48), none, .ext (.tmp 44) 0⟩,
         ⟨(some 49), none, .ext (.tmp 44) 1⟩,
         ⟨(some 13), none, .mov (.tmp 48)⟩,
         ⟨(some 14), none, .mov (.tmp 49)⟩]) (
       .seq (
        .region [
          ⟨(some 51), none, .mov (.tmp 0)⟩,
          ⟨(some 52), none, .mov (.tmp 1)⟩,
          ⟨(some 53), none, .call 37 [(.tmp 51), (.tmp 52)]⟩,
          ⟨(some 50), none, .mov (.tmp 53)⟩,
          ⟨(some 54), none, .ext (.tmp 50) 0⟩,
          ⟨(some 55), none, .ext (.tmp 50) 1⟩,
          ⟨(some 15), none, .mov (.tmp 54)⟩,
          ⟨(some 16), none, .mov (.tmp 55)⟩]) (
        .seq (
         .region [
           ⟨(some 57), none, .mov (.tmp 0)⟩,
           ⟨(some 58), none, .mov (.tmp 2)⟩,
           ⟨(some 59), none, .call 33 [(.tmp 57), (.tmp 58)]⟩,
           ⟨(some 56), none, .mov (.tmp 59)⟩,
           ⟨(some 60), none, .ext (.tmp 56) 0⟩,
           ⟨(some 61), none, .ext (.tmp 56) 1⟩,
           ⟨(some 17), none, .mov (.tmp 60)⟩,
           ⟨(some 18), none, .mov (.tmp 61)⟩]) (
         .seq (
          .region [
            ⟨(some 63), none, .mov (.tmp 0)⟩,
            ⟨(some 64), none, .mov (.tmp 2)⟩,
            ⟨(some 65), none, .call 38 [(.tmp 63), (.tmp 64)]⟩,
            ⟨(some 62), none, .mov (.tmp 65)⟩,
            ⟨(some 66), none, .ext (.tmp 62) 0⟩,
            ⟨(some 67), none, .ext (.tmp 62) 1⟩,
            ⟨(some 19), none, .mov (.tmp 66)⟩,
            ⟨(some 20), none, .mov (.tmp 67)⟩]) (
          .seq (
           .region [
             ⟨(some 68), none, .mov (.tmp 7)⟩,
             ⟨(some 69), none, .mov (.tmp 10)⟩,
             ⟨(some 70), none, .call 19 [(.tmp 68), (.tmp 69)]⟩,
             ⟨(some 71), none, .mov (.tmp 70)⟩,
             ⟨(some 72), (some (71, true)), .mov (.tmp 8)⟩,
             ⟨(some 73), (some (71, true)), .mov (.tmp 11)⟩,
             ⟨(some 74), (some (71, true)), .call 19 [(.tmp 72), (.tmp 73)]⟩,
             ⟨(some 75), none, .pick (.tmp 71) (.tmp 74) (.cst (.p (.bool false)))⟩,
             ⟨(some 76), none, .mov (.tmp 75)⟩,
             ⟨(some 77), (some (76, true)), .mov (.tmp 9)⟩,
             ⟨(some 78), (some (76, true)), .mov (.tmp 12)⟩,
             ⟨(some 79), (some (76, true)), .bin .eql (.tmp 77) (.tmp 78)⟩,
             ⟨(some 80), none, .pick (.tmp 76) (.tmp 79) (.cst (.p (.bool false)))⟩,
             ⟨(some 81), none, .mov (.tmp 80)⟩,
             ⟨(some 82), (some (81, true)), .mov (.tmp 13)⟩,
             ⟨(some 83), (some (81, true)), .mov (.tmp 15)⟩,
             ⟨(some 84), (some (81, true)), .call 19 [(.tmp 82), (.tmp 83)]⟩,
             ⟨(some 85), none, .pick (.tmp 81) (.tmp 84) (.cst (.p (.bool false)))⟩,
             ⟨(some 86), none, .mov (.tmp 85)⟩,
             ⟨(some 87), (some (86, true)), .mov (.tmp 14)⟩,
             ⟨(some 88), (some (86, true)), .mov (.tmp 16)⟩,
             ⟨(some 89), (some (86, true)), .bin .eql (.tmp 87) (.tmp 88)⟩,
             ⟨(some 90), none, .pick (.tmp 86) (.tmp 89) (.cst (.p (.bool false)))⟩,
             ⟨(some 91), none, .mov (.tmp 90)⟩,
             ⟨(some 92), (some (91, true)), .mov (.tmp 17)⟩,
             ⟨(some 93), (some (91, true)), .mov (.tmp 19)⟩,
             ⟨(some 94), (some (91, true)), .call 19 [(.tmp 92), (.tmp 93)]⟩,
             ⟨(some 95), none, .pick (.tmp 91) (.tmp 94) (.cst (.p (.bool false)))⟩,
             ⟨(some 96), none, .mov (.tmp 95)⟩,
             ⟨(some 97), (some (96, true)), .mov (.tmp 18)⟩,
             ⟨(some 98), (some (96, true)), .mov (.tmp 20)⟩,
             ⟨(some 99), (some (96, true)), .bin .eql (.tmp 97) (.tmp 98)⟩,
             ⟨(some 100), none, .pick (.tmp 96) (.tmp 99) (.cst (.p (.bool false)))⟩,
             ⟨(some 101), none, .mov (.tmp 100)⟩,
             ⟨(some 102), (some (101, true)), .mov (.tmp 0)⟩,
             ⟨(some 103), (some (101, true)), .call 21 [(.tmp 102)]⟩,
             ⟨(some 104), (some (101, true)), .un .not (.tmp 103)⟩,
             ⟨(some 105), (some (101, true)), .mov (.tmp 104)⟩,
             ⟨(some 106), (some (105, false)), .mov (.tmp 0)⟩,
             ⟨(some 107), (some (105, false)), .call 32 [(.tmp 106)]⟩,
             ⟨(some 108), (some (105, false)), .mov (.tmp 0)⟩,
             ⟨(some 109), (some (105, false)), .call 39 [(.tmp 108)]⟩,
             ⟨(some 110), (some (105, false)), .bin .eql (.tmp 107) (.tmp 109)⟩,
             ⟨(some 111), (some (101, true)), .pick (.tmp 105) (.cst (.p (.bool true))) (.tmp 110)⟩,
             ⟨(some 112), none, .pick (.tmp 101) (.tmp 111) (.cst (.p (.bool false)))⟩,
             ⟨(some 113), none, .mov (.tmp 112)⟩,
             ⟨(some 114), (some (113, true)), .mov (.tmp 2)⟩,
             ⟨(some 115), (some (113, true)), .call 40 [(.tmp 114)]⟩,
             ⟨(some 116), (some (113, true)), .mov (.tmp 2)⟩,
             ⟨(some 117), (some (113, true)), .call 41 [(.tmp 116)]⟩,
             ⟨(some 118), (some (113, true)), .call 19 [(.tmp 115), (.tmp 117)]⟩,
             ⟨(some 119), none, .pick (.tmp 113) (.tmp 118) (.cst (.p (.bool false)))⟩,
             ⟨(some 120), none, .mov (.tmp 119)⟩,
             ⟨(some 121), (some (120, true)), .call 15 []⟩,
             ⟨(some 122), none, .pick (.tmp 120) (.tmp 121) (.cst (.p (.bool false)))⟩,
             ⟨(some 6), none, .mov (.tmp 122)⟩]) (
           .ret))))))))))⟩
theorem low10 : lowFunc Tryz.prog gl0 10 = some lf10 := by kernel_rfl
def lf17_B0 : LCode := .block 0 (
  .loop (
   .seq (
    .seq (
     .region [
       ⟨(some 7), none, .mov (.tmp 6)⟩,
       ⟨(some 8), none, .mov (.tmp 0)⟩,
       ⟨(some 9), none, .lenS (.tmp 8)⟩,
       ⟨(some 10), none, .bin .lss (.tmp 7) (.tmp 9)⟩]) (
     .cond (.tmp 10) (
      .skip) (
      .exit 0))) (
    .seq (
     .block 1 (
      .seq (
       .seq (
        .region [
          ⟨(some 13), none, .mov (.tmp 0)⟩,
          ⟨(some 14), none, .mov (.tmp 6)⟩,
          ⟨(some 15), none, .istr (.tmp 13) (.tmp 14)⟩,
          ⟨(some 16), none, .bin .lss (.tmp 15) (.cst (.p (.int .u8 48)))⟩,
          ⟨(some 17), none, .mov (.tmp 16)⟩,
          ⟨(some 18), (some (17, false)), .mov (.tmp 0)⟩,
          ⟨(some 19), (some (17, false)), .mov (.tmp 6)⟩,
          ⟨(some 20), (some (17, false)), .istr (.tmp 18) (.tmp 19)⟩,
          ⟨(some 21), (some (17, false)), .bin .gtr (.tmp 20) (.cst (.p (.int .u8 57)))⟩,
          ⟨(some 22), none, .pick (.tmp 17) (.cst (.p (.bool true))) (.tmp 21)⟩]) (
        .cond (.tmp 22) (
         .seq (
          .region [
            ⟨(some 2), none, .mov (.cst (.tight []))⟩,
            ⟨(some 3), none, .mov (.cst (.p (.int .i64 2)))⟩]) (
          .ret)) (
         .skip))) (
       .seq (
        .region [
          ⟨(some 23), none, .mov (.tmp 5)⟩,
          ⟨(some 24), none, .un .not (.tmp 23)⟩]) (
        .cond (.tmp 24) (
         .seq (
          .region [
            ⟨(some 25), none, .mov (.tmp 4)⟩,
            ⟨(some 26), none, .mov (.tmp 0)⟩,
            ⟨(some 27), none, .mov (.tmp 6)⟩,
            ⟨(some 28), none, .istr (.tmp 26) (.tmp 27)⟩,
            ⟨(some 29), none, .bin .sub (.tmp 28) (.cst (.p (.int .u8 48)))⟩,
            ⟨(some 30), none, .conv (.toInt .u64) (.tmp 29)⟩,
            ⟨(some 31), none, .call 69 [(.tmp 25), (.cst (.p (.int .u64 10))), (.tmp 30)]⟩,
            ⟨(some 4), none, .mov (.tmp 31)⟩]) (
          .region [
            ⟨(some 32), none, .mov (.tmp 4)⟩,
            ⟨(some 33), none, .len (.tmp 32)⟩,
            ⟨(some 34), none, .bin .gtr (.tmp 33) (.cst (.p (.int .i64 64)))⟩,
            ⟨(some 5), none, .mov (.tmp 34)⟩])) (
         .skip))))) (
     .region [
       ⟨(some 11), none, .mov (.tmp 6)⟩,
       ⟨(some 12), none, .bin .add (.tmp 11) (.cst (.p (.int .i64 1)))⟩,
       ⟨(some 6), none, .mov (.tmp 12)⟩]))))
def lf17 : LFunc := ⟨40, [(.slot 2), (.slot 3)], (
  .seq (
   .region [
     ⟨(some 2), none, .mov (.cst (.tight []))⟩,
     ⟨(some 3), none, .mov (.cst (.p (.int .i64 0)))⟩]) (
   .seq (
    .region [
      ⟨(some 4), none, .mov (.cst (.tight []))⟩]) (
    .seq (
     .region [
       ⟨(some 5), none, .mov (.cst (.p (.bool false)))⟩]) (
     .seq (
      .seq (
       .region [
         ⟨(some 6), none, .mov (.cst (.p (.int .i64 0)))⟩]) (
       lf17_B0)) (
      .seq (
       .seq (
        .region [
          ⟨(some 35), none, .mov (.tmp 0)⟩,
          ⟨(some 36), none, .lenS (.tmp 35)⟩,
          ⟨(some 37), none, .bin .eql (.tmp 36) (.cst (.p (.int .i64 0)))⟩]) (
        .cond (.tmp 37) (
         .seq (
          .region [
            ⟨(some 2), none, .mov (.cst (.tight []))⟩,
            ⟨(some 3), none, .mov (.cst (.p (.int .i64 2)))⟩]) (
          .ret)) (
         .skip))) (
       .seq (
        .seq (
         .region [
           ⟨(some 38), none, .mov (.tmp 5)⟩]) (
         .cond (.tmp 38) (
          .seq (
           .region [
             ⟨(some 2), none, .mov (.cst (.tight []))⟩,
             ⟨(some 3), none, .mov (.cst (.p (.int .i64 4)))⟩]) (
           .ret)) (
          .skip))) (
        .seq (
         .region [
           ⟨(some 39), none, .mov (.tmp 4)⟩,
           ⟨(some 2), none, .mov (.tmp 39)⟩,
           ⟨(some 3), none, .mov (.cst (.p (.int .i64 0)))⟩]) (
         .ret))))))))⟩
theorem low17 : lowFunc Tryz.prog gl0 17 = some lf17 := by kernel_rfl
def lf20_B0 : LCode := .block 2 (
  .loop (
   .seq (
    .seq (
     .region [
       ⟨(some 22), none, .mov (.tmp 6)⟩,
       ⟨(some 23), none, .bin .geq (.tmp 22) (.cst (.p (.int .i64 0)))⟩]) (
     .cond (.tmp 23) (
      .skip) (
      .exit 2))) (
    .seq (
     .block 3 (
      .region [
        ⟨(some 27), none, .mov (.tmp 4)⟩,
        ⟨(some 28), none, .mov (.tmp 6)⟩,
        ⟨(some 29), none, .mov (.tmp 5)⟩,
        ⟨(some 30), none, .mov (.tmp 4)⟩,
        ⟨(some 31), none, .mov (.tmp 6)⟩,
        ⟨(some 32), none, .iadr 1 (.tmp 30) (.tmp 31)⟩,
        ⟨(some 33), none, .load 1 false (.tmp 32)⟩,
        ⟨(some 34), none, .call 77 [(.tmp 29), (.tmp 33), (.cst (.p (.int .u64 10)))]⟩,
        ⟨(some 26), none, .mov (.tmp 34)⟩,
        ⟨(some 35), none, .ext (.tmp 26) 0⟩,
        ⟨(some 36), none, .ext (.tmp 26) 1⟩,
        ⟨(some 37), none, .iadr 1 (.tmp 27) (.tmp 28)⟩,
        ⟨none, none, .store 1 (.tmp 37) (.tmp 35)⟩,
        ⟨(some 5), none, .mov (.tmp 36)⟩])) (
     .region [
       ⟨(some 24), none, .mov (.tmp 6)⟩,
       ⟨(some 25), none, .bin .sub (.tmp 24) (.cst (.p (.int .i64 1)))⟩,
       ⟨(some 6), none, .mov (.tmp 25)⟩]))))
def lf20_B1 : LCode := .block 0 (
  .loop (
   .seq (
    .seq (
     .region [
       ⟨(some 16), none, .mov (.tmp 4)⟩,
       ⟨(some 17), none, .len (.tmp 16)⟩,
       ⟨(some 18), none, .bin .gtr (.tmp 17) (.cst (.p (.int .i64 0)))⟩]) (
     .cond (.tmp 18) (
      .skip) (
      .exit 0))) (
    .block 1 (
     .seq (
      .region [
        ⟨(some 5), none, .mov (.cst (.p (.int .u64 0)))⟩]) (
      .seq (
       .seq (
        .region [
          ⟨(some 19), none, .mov (.tmp 4)⟩,
          ⟨(some 20), none, .len (.tmp 19)⟩,
          ⟨(some 21), none, .bin .sub (.tmp 20) (.cst (.p (.int .i64 1)))⟩,
          ⟨(some 6), none, .mov (.tmp 21)⟩]) (
        lf20_B0)) (
       .seq (
        .region [
          ⟨(some 38), none, .mov (.tmp 5)⟩,
          ⟨(some 39), none, .bin .add (.cst (.p (.int .u64 48))) (.tmp 38)⟩,
          ⟨(some 40), none, .conv (.toInt .u8) (.tmp 39)⟩,
          ⟨(some 41), none, .buildSl 1 5 (.p (.int .u8 0)) 1 [(0, (.tmp 40))]⟩,
          ⟨(some 42), none, .conv .b2s (.tmp 41)⟩,
          ⟨(some 43), none, .mov (.tmp 3)⟩,
          ⟨(some 44), none, .bin .add (.tmp 42) (.tmp 43)⟩,
          ⟨(some 3), none, .mov (.tmp 44)⟩]) (
        .region [
          ⟨(some 45), none, .mov (.tmp 4)⟩,
          ⟨(some 46), none, .call 78 [(.tmp 45)]⟩,
          ⟨(some 4), none, .mov (.tmp 46)⟩])))))))
def lf20 : LFunc := ⟨48, [(.slot 2)], (
  .seq (
   .region [
     ⟨(some 2), none, .mov (.cst (.p (.str [])))⟩]) (
   .seq (
    .seq (
     .region [
       ⟨(some 7), none, .mov (.tmp 0)⟩,
       ⟨(some 8), none, .call 31 [(.tmp 7)]⟩,
       ⟨(some 9), none, .un .not (.tmp 8)⟩]) (
     .cond (.tmp 9) (
      .seq (
       .region [
         ⟨(some 2), none, .mov (.cst (.p (.str [])))⟩]) (
       .ret)) (
      .skip))) (
    .seq (
     .seq (
      .region [
        ⟨(some 10), none, .mov (.tmp 0)⟩,
        ⟨(some 11), none, .len (.tmp 10)⟩,
        ⟨(some 12), none, .bin .eql (.tmp 11) (.cst (.p (.int .i64 0)))⟩]) (
      .cond (.tmp 12) (
       .seq (
        .region [
          ⟨(some 2), none, .mov (.cst (.p (.str [48])))⟩]) (
        .ret)) (
       .skip))) (
     .seq (
      .region [
        ⟨(some 3), none, .mov (.cst (.p (.str [])))⟩]) (
      .seq (
       .region [
         ⟨(some 13), none, .buildSl 1 40 (.p (.int .u64 0)) 0 []⟩,
         ⟨(some 14), none, .mov (.tmp 0)⟩,
         ⟨(some 15), none, .app 1 8 40 (.tmp 13) (.tmp 14)⟩,
         ⟨(some 4), none, .mov (.tmp 15)⟩]) (
       .seq (
        lf20_B1) (
        .seq (
         .region [
           ⟨(some 47), none, .mov (.tmp 3)⟩,
           ⟨(some 2), none, .mov (.tmp 47)⟩]) (
         .ret))))))))⟩
theorem low20 : lowFunc Tryz.prog gl0 20 = some lf20 := by kernel_rfl
def lf24 : LFunc := ⟨20, [(.slot 4), (.slot 5)], (
  .seq (
   .region [
     ⟨(some 4), none, .mov (.cst (.tight []))⟩,
     ⟨(some 5), none, .mov (.cst (.p (.int .i64 0)))⟩]) (
   .seq (
    .seq (
     .region [
       ⟨(some 6), none, .mov (.tmp 0)⟩,
       ⟨(some 7), none, .call 31 [(.tmp 6)]⟩,
       ⟨(some 8), none, .un .not (.tmp 7)⟩,
       ⟨(some 9), none, .mov (.tmp 8)⟩,
       ⟨(some 10), (some (9, false)), .mov (.tmp 1)⟩,
       ⟨(some 11), (some (9, false)), .call 31 [(.tmp 10)]⟩,
       ⟨(some 12), (some (9, false)), .un .not (.tmp 11)⟩,
       ⟨(some 13), none, .pick (.tmp 9) (.cst (.p (.bool true))) (.tmp 12)⟩]) (
     .cond (.tmp 13) (
      .seq (
       .region [
         ⟨(some 4), none, .mov (.cst (.tight []))⟩,
         ⟨(some 5), none, .mov (.cst (.p (.int .i64 1)))⟩]) (
       .ret)) (
      .skip))) (
    .seq (
     .region [
       ⟨(some 14), none, .mov (.tmp 0)⟩,
       ⟨(some 15), none, .mov (.tmp 1)⟩,
       ⟨(some 16), none, .call 81 [(.tmp 14), (.tmp 15)]⟩,
       ⟨(some 17), none, .call 80 [(.tmp 16)]⟩,
       ⟨(some 18), none, .ext (.tmp 17) 0⟩,
       ⟨(some 19), none, .ext (.tmp 17) 1⟩,
       ⟨(some 4), none, .mov (.tmp 18)⟩,
       ⟨(some 5), none, .mov (.tmp 19)⟩]) (
     .ret))))⟩
theorem low24 : lowFunc Tryz.prog gl0 24 = some lf24 := by kernel_rfl
def lf26 : LFunc := ⟨23, [(.slot 4), (.slot 5)], (
  .seq (
   .region [
     ⟨(some 4), none, .mov (.cst (.tight []))⟩,
     ⟨(some 5), none, .mov (.cst (.p (.int .i64 0)))⟩]) (
   .seq (
    .seq (
     .region [
       ⟨(some 6), none, .mov (.tmp 0)⟩,
       ⟨(some 7), none, .call 31 [(.tmp 6)]⟩,
       ⟨(some 8), none, .un .not (.tmp 7)⟩,
       ⟨(some 9), none, .mov (.tmp 8)⟩,
       ⟨(some 10), (some (9, false)), .mov (.tmp 1)⟩,
       ⟨(some 11), (some (9, false)), .call 31 [(.tmp 10)]⟩,
       ⟨(some 12), (some (9, false)), .un .not (.tmp 11)⟩,
       ⟨(some 13), none, .pick (.tmp 9) (.cst (.p (.bool true))) (.tmp 12)⟩,
       ⟨(some 14), none, .mov (.tmp 13)⟩,
       ⟨(some 15), (some (14, false)), .mov (.tmp 0)⟩,
       ⟨(some 16), (some (14, false)), .mov (.tmp 1)⟩,
       ⟨(some 17), (some (14, false)), .call 84 [(.tmp 15), (.tmp 16)]⟩,
       ⟨(some 18), (some (14, false)), .bin .lss (.tmp 17) (.cst (.p (.int .i64 0)))⟩,
       ⟨(some 19), none, .pick (.tmp 14) (.cst (.p (.bool true))) (.tmp 18)⟩]) (
     .cond (.tmp 19) (
      .seq (
       .region [
         ⟨(some 4), none, .mov (.cst (.tight []))⟩,
         ⟨(some 5), none, .mov (.cst (.p (.int .i64 1)))⟩]) (
       .ret)) (
      .skip))) (
    .seq (
     .region [
       ⟨(some 20), none, .mov (.tmp 0)⟩,
       ⟨(some 21), none, .mov (.tmp 1)⟩,
       ⟨(some 22), none, .call 85 [(.tmp 20), (.tmp 21)]⟩,
       ⟨(some 4), none, .mov (.tmp 22)⟩,
       ⟨(some 5), none, .mov (.cst (.p (.int .i64 0)))⟩]) (
     .ret))))⟩
theorem low26 : lowFunc Tryz.prog gl0 26 = some lf26 := by kernel_rfl
def lf28 : LFunc := ⟨20, [(.slot 4), (.slot 5)], (
  .seq (
   .region [
     ⟨(some 4), none, .mov (.cst (.tight []))⟩,
     ⟨(some 5), none, .mov (.cst (.p (.int .i64 0)))⟩]) (
   .seq (
    .seq (
     .region [
       ⟨(some 6), none, .mov (.tmp 0)⟩,
       ⟨(some 7), none, .call 31 [(.tmp 6)]⟩,
       ⟨(some 8), none, .un .not (.tmp 7)⟩,
       ⟨(some 9), none, .mov (.tmp 8)⟩,
       ⟨(some 10), (some (9, false)), .mov (.tmp 1)⟩,
       ⟨(some 11), (some (9, false)), .call 31 [(.tmp 10)]⟩,
       ⟨(some 12), (some (9, false)), .un .not (.tmp 11)⟩,
       ⟨(some 13), none, .pick (.tmp 9) (.cst (.p (.bool true))) (.tmp 12)⟩]) (
     .cond (.tmp 13) (
      .seq (
       .region [
         ⟨(some 4), none, .mov (.cst (.tight []))⟩,
         ⟨(some 5), none, .mov (.cst (.p (.int .i64 1)))⟩]) (
       .ret)) (
      .skip))) (
    .seq (
     .region [
       ⟨(some 14), none, .mov (.tmp 0)⟩,
       ⟨(some 15), none, .mov (.tmp 1)⟩,
       ⟨(some 16), none, .call 87 [(.tmp 14), (.tmp 15)]⟩,
       ⟨(some 17), none, .call 80 [(.tmp 16)]⟩,
       ⟨(some 18), none, .ext (.tmp 17) 0⟩,
       ⟨(some 19), none, .ext (.tmp 17) 1⟩,
       ⟨(some 4), none, .mov (.tmp 18)⟩,
       ⟨(some 5), none, .mov (.tmp 19)⟩]) (
     .ret))))⟩
theorem low28 : lowFunc Tryz.prog gl0 28 = some lf28 := by kernel_rfl
def lf30 : LFunc := ⟨16, [(.slot 4)], (
  .seq (
   .region [
     ⟨(some 4), none, .mov (.cst (.p (.int .i64 0)))⟩]) (
   .seq (
    .seq (
     .region [
       ⟨(some 5), none, .mov (.tmp 0)⟩,
       ⟨(some 6), none, .call 31 [(.tmp 5)]⟩,
       ⟨(some 7), none, .un .not (.tmp 6)⟩,
       ⟨(some 8), none, .mov (.tmp 7)⟩,
       ⟨(some 9), (some (8, false)), .mov (.tmp 1)⟩,
       ⟨(some 10), (some (8, false)), .call 31 [(.tmp 9)]⟩,
       ⟨(some 11), (some (8, false)), .un .not (.tmp 10)⟩,
       ⟨(some 12), none, .pick (.tmp 8) (.cst (.p (.bool true))) (.tmp 11)⟩]) (
     .cond (.tmp 12) (
      .seq (
       .region [
         ⟨(some 4), none, .mov (.cst (.p (.int .i64 0)))⟩]) (
       .ret)) (
      .skip))) (
    .seq (
     .region [
       ⟨(some 13), none, .mov (.tmp 0)⟩,
       ⟨(some 14), none, .mov (.tmp 1)⟩,
       ⟨(some 15), none, .call 84 [(.tmp 13), (.tmp 14)]⟩,
       ⟨(some 4), none, .mov (.tmp 15)⟩]) (
     .ret))))⟩
theorem low30 : lowFunc Tryz.prog gl0 30 = some lf30 := by kernel_rfl
def lf31 : LFunc := ⟨20, [(.slot 2)], (
  .seq (
   .region [
     ⟨(some 2), none, .mov (.cst (.p (.bool false)))⟩]) (
   .seq (
    .region [
      ⟨(some 3), none, .mov (.tmp 0)⟩,
      ⟨(some 4), none, .len (.tmp 3)⟩,
      ⟨(some 5), none, .bin .leq (.tmp 4) (.cst (.p (.int .i64 64)))⟩,
      ⟨(some 6), none, .mov (.tmp 5)⟩,
      ⟨(some 7), (some (6, true)), .mov (.tmp 0)⟩,
      ⟨(some 8), (some (6, true)), .len (.tmp 7)⟩,
      ⟨(some 9), (some (6, true)), .bin .eql (.tmp 8) (.cst (.p (.int .i64 0)))⟩,
      ⟨(some 10), (some (6, true)), .mov (.tmp 9)⟩,
      ⟨(some 11), (some (10, false)), .mov (.tmp 0)⟩,
      ⟨(some 12), (some (10, false)), .mov (.tmp 0)⟩,
      ⟨(some 13), (some (10, false)), .len (.tmp 12)⟩,
      ⟨(some 14), (some (10, false)), .bin .sub (.tmp 13) (.cst (.p (.int .i64 1)))⟩,
      ⟨(some 15), (some (10, false)), .iadr 1 (.tmp 11) (.tmp 14)⟩,
      ⟨(some 16), (some (10, false)), .load 1 false (.tmp 15)⟩,
      ⟨(some 17), (some (10, false)), .bin .neq (.tmp 16) (.cst (.p (.int .u64 0)))⟩,
      ⟨(some 18), (some (6, true)), .pick (.tmp 10) (.cst (.p (.bool true))) (.tmp 17)⟩,
      ⟨(some 19), none, .pick (.tmp 6) (.tmp 18) (.cst (.p (.bool false)))⟩,
      ⟨(some 2), none, .mov (.tmp 19)⟩]) (
    .ret)))⟩
theorem low31 : lowFunc Tryz.prog gl0 31 = some lf31 := by kernel_rfl
def lf36 : LFunc := ⟨30, [(.slot 4), (.slot 5), (.slot 6)], (
  .seq (
   .region [
     ⟨(some 4), none, .mov (.cst (.tight []))⟩,
     ⟨(some 5), none, .mov (.cst (.tight []))⟩,
     ⟨(some 6), none, .mov (.cst (.p (.int .i64 0)))⟩]) (
   .seq (
    .seq (
     .region [
       ⟨(some 9), none, .mov (.tmp 0)⟩,
       ⟨(some 10), none, .call 31 [(.tmp 9)]⟩,
       ⟨(some 11), none, .un .not (.tmp 10)⟩,
       ⟨(some 12), none, .mov (.tmp 11)⟩,
       ⟨(some 13), (some (12, false)), .mov (.tmp 1)⟩,
       ⟨(some 14), (some (12, false)), .call 31 [(.tmp 13)]⟩,
       ⟨(some 15), (some (12, false)), .un .not (.tmp 14)⟩,
       ⟨(some 16), none, .pick (.tmp 12) (.cst (.p (.bool true))) (.tmp 15)⟩,
       ⟨(some 17), none, .mov (.tmp 16)⟩,
       ⟨(some 18), (some (17, false)), .mov (.tmp 1)⟩,
       ⟨(some 19), (some (17, false)), .len (.tmp 18)⟩,
       ⟨(some 20), (some (17, false)), .bin .eql (.tmp 19) (.cst (.p (.int .i64 0)))⟩,
       ⟨(some 21), none, .pick (.tmp 17) (.cst (.p (.bool true))) (.tmp 20)⟩]) (
     .cond (.tmp 21) (
      .seq (
       .region [
         ⟨(some 4), none, .mov (.cst (.tight []))⟩,
         ⟨(some 5), none, .mov (.cst (.tight []))⟩,
         ⟨(some 6), none, .mov (.cst (.p (.int .i64 1)))⟩]) (
       .ret)) (
      .skip))) (
    .seq (
     .region [
       ⟨(some 23), none, .mov (.tmp 0)⟩,
       ⟨(some 24), none, .mov (.tmp 1)⟩,
       ⟨(some 25), none, .call 94 [(.tmp 23), (.tmp 24)]⟩,
       ⟨(some 22), none, .mov (.tmp 25)⟩,
       ⟨(some 26), none, .ext (.tmp 22) 0⟩,
       ⟨(some 27), none, .ext (.tmp 22) 1⟩,
       ⟨(some 7), none, .mov (.tmp 26)⟩,
       ⟨(some 8), none, .mov (.tmp 27)⟩]) (
     .seq (
      .region [
        ⟨(some 28), none, .mov (.tmp 7)⟩,
        ⟨(some 29), none, .mov (.tmp 8)⟩,
        ⟨(some 4), none, .mov (.tmp 28)⟩,
        ⟨(some 5), none, .mov (.tmp 29)⟩,
        ⟨(some 6), none, .mov (.cst (.p (.int .i64 0)))⟩]) (
      .ret)))))⟩
theorem low36 : lowFunc Tryz.prog gl0 36 = some lf36 := by kernel_rfl
def lf37 : LFunc := ⟨17, [(.slot 4), (.slot 5)], (
  .seq (
   .region [
     ⟨(some 4), none, .mov (.cst (.tight []))⟩,
     ⟨(some 5), none, .mov (.cst (.p (.int .i64 0)))⟩]) (
   .seq (
    .seq (
     .region [
       ⟨(some 6), none, .mov (.tmp 0)⟩,
       ⟨(some 7), none, .call 31 [(.tmp 6)]⟩,
       ⟨(some 8), none, .un .not (.tmp 7)⟩,
       ⟨(some 9), none, .mov (.tmp 8)⟩,
       ⟨(some 10), (some (9, false)), .mov (.tmp 1)⟩,
       ⟨(some 11), (some (9, false)), .call 31 [(.tmp 10)]⟩,
       ⟨(some 12), (some (9, false)), .un .not (.tmp 11)⟩,
       ⟨(some 13), none, .pick (.tmp 9) (.cst (.p (.bool true))) (.tmp 12)⟩]) (
     .cond (.tmp 13) (
      .seq (
       .region [
         ⟨(some 4), none, .mov (.cst (.tight []))⟩,
         ⟨(some 5), none, .mov (.cst (.p (.int .i64 1)))⟩]) (
       .ret)) (
      .skip))) (
    .seq (
     .region [
       ⟨(some 14), none, .mov (.tmp 0)⟩,
       ⟨(some 15), none, .mov (.tmp 1)⟩,
       ⟨(some 16), none, .call 95 [(.tmp 14), (.tmp 15)]⟩,
       ⟨(some 4), none, .mov (.tmp 16)⟩,
       ⟨(some 5), none, .mov (.cst (.p (.int .i64 0)))⟩]) (
     .ret))))⟩
theorem low37 : lowFunc Tryz.prog gl0 37 = some lf37 := by kernel_rfl
def lf38 : LFunc := ⟨24, [(.slot 4), (.slot 5)], (
  .seq (
   .region [
     ⟨(some 4), none, .mov (.cst (.tight []))⟩,
     ⟨(some 5), none, .mov (.cst (.p (.int .i64 0)))⟩]) (
   .seq (
    .seq (
     .region [
       ⟨(some 6), none, .mov (.tmp 0)⟩,
       ⟨(some 7), none, .call 31 [(.tmp 6)]⟩,
       ⟨(some 8), none, .un .not (.tmp 7)⟩]) (
     .cond (.tmp 8) (
      .seq (
       .region [
         ⟨(some 4), none, .mov (.cst (.tight []))⟩,
         ⟨(some 5), none, .mov (.cst (.p (.int .i64 1)))⟩]) (
       .ret)) (
      .skip))) (
    .seq (
     .seq (
      .region [
        ⟨(some 9), none, .mov (.tmp 0)⟩,
        ⟨(some 10), none, .len (.tmp 9)⟩,
        ⟨(some 11), none, .bin .eql (.tmp 10) (.cst (.p (.int .i64 0)))⟩,
        ⟨(some 12), none, .mov (.tmp 11)⟩,
        ⟨(some 13), (some (12, false)), .mov (.tmp 1)⟩,
        ⟨(some 14), (some (12, false)), .bin .lss (.tmp 13) (.cst (.p (.int .i64 (-4096))))⟩,
        ⟨(some 15), none, .pick (.tmp 12) (.cst (.p (.bool true))) (.tmp 14)⟩]) (
      .cond (.tmp 15) (
       .seq (
        .region [
          ⟨(some 4), none, .mov (.cst (.tight []))⟩,
          ⟨(some 5), none, .mov (.cst (.p (.int .i64 0)))⟩]) (
        .ret)) (
       .skip))) (
     .seq (
      .seq (
       .region [
         ⟨(some 16), none, .mov (.tmp 1)⟩,
         ⟨(some 17), none, .bin .gtr (.tmp 16) (.cst (.p (.int .i64 4096)))⟩]) (
       .cond (.tmp 17) (
        .seq (
         .region [
           ⟨(some 4), none, .mov (.cst (.tight []))⟩,
           ⟨(some 5), none, .mov (.cst (.p (.int .i64 4)))⟩]) (
         .ret)) (
        .skip))) (
      .seq (
       .region [
         ⟨(some 18), none, .mov (.tmp 0)⟩,
         ⟨(some 19), none, .mov (.tmp 1)⟩,
         ⟨(some 20), none, .call 96 [(.tmp 18), (.tmp 19)]⟩,
         ⟨(some 21), none, .call 80 [(.tmp 20)]⟩,
         ⟨(some 22), none, .ext (.tmp 21) 0⟩,
         ⟨(some 23), none, .ext (.tmp 21) 1⟩,
         ⟨(some 4), none, .mov (.tmp 22)⟩,
         ⟨(some 5), none, .mov (.tmp 23)⟩]) (
       .ret))))))⟩
theorem low38 : lowFunc Tryz.prog gl0 38 = some lf38 := by kernel_rfl
def lf39 : LFunc := ⟨18, [(.slot 2)], (
  .seq (
   .region [
     ⟨(some 2), none, .mov (.cst (.p (.int .i64 0)))⟩]) (
   .seq (
    .seq (
     .region [
       ⟨(some 3), none, .mov (.tmp 0)⟩,
       ⟨(some 4), none, .len (.tmp 3)⟩,
       ⟨(some 5), none, .bin .eql (.tmp 4) (.cst (.p (.int .i64 0)))⟩]) (
     .cond (.tmp 5) (
      .seq (
       .region [
         ⟨(some 2), none, .mov (.cst (.p (.int .i64 0)))⟩]) (
       .ret)) (
      .skip))) (
    .seq (
     .region [
       ⟨(some 6), none, .mov (.tmp 0)⟩,
       ⟨(some 7), none, .len (.tmp 6)⟩,
       ⟨(some 8), none, .bin .sub (.tmp 7) (.cst (.p (.int .i64 1)))⟩,
       ⟨(some 9), none, .bin .mul (.cst (.p (.int .i64 64))) (.tmp 8)⟩,
       ⟨(some 10), none, .mov (.tmp 0)⟩,
       ⟨(some 11), none, .mov (.tmp 0)⟩,
       ⟨(some 12), none, .len (.tmp 11)⟩,
       ⟨(some 13), none, .bin .sub (.tmp 12) (.cst (.p (.int .i64 1)))⟩,
       ⟨(some 14), none, .iadr 1 (.tmp 10) (.tmp 13)⟩,
       ⟨(some 15), none, .load 1 false (.tmp 14)⟩,
       ⟨(some 16), none, .call 97 [(.tmp 15)]⟩,
       ⟨(some 17), none, .bin .add (.tmp 9) (.tmp 16)⟩,
       ⟨(some 2), none, .mov (.tmp 17)⟩]) (
     .ret))))⟩
theorem low39 : lowFunc Tryz.prog gl0 39 = some lf39 := by kernel_rfl
def lf41 : LFunc := ⟨8, [(.slot 2)], (
  .seq (
   .region [
     ⟨(some 2), none, .mov (.cst (.tight []))⟩]) (
   .seq (
    .seq (
     .region [
       ⟨(some 3), none, .mov (.tmp 0)⟩,
       ⟨(some 4), none, .bin .leq (.tmp 3) (.cst (.p (.int .i64 0)))⟩]) (
     .cond (.tmp 4) (
      .seq (
       .region [
         ⟨(some 2), none, .mov (.cst (.tight []))⟩]) (
       .ret)) (
      .skip))) (
    .seq (
     .region [
       ⟨(some 5), none, .mov (.tmp 0)⟩,
       ⟨(some 6), none, .conv (.toInt .u64) (.tmp 5)⟩,
       ⟨(some 7), none, .buildSl 1 40 (.p (.int .u64 0)) 1 [(0, (.tmp 6))]⟩,
       ⟨(some 2), none, .mov (.tmp 7)⟩]) (
     .ret))))⟩
theorem low41 : lowFunc Tryz.prog gl0 41 = some lf41 := by kernel_rfl
def lf69_B0 : LCode := .block 0 (
  .loop (
   .seq (
    .seq (
     .region [
       ⟨(some 16), none, .mov (.tmp 8)⟩,
       ⟨(some 17), none, .mov (.tmp 7)⟩,
       ⟨(some 18), none, .len (.tmp 17)⟩,
       ⟨(some 19), none, .bin .lss (.tmp 16) (.tmp 18)⟩]) (
     .cond (.tmp 19) (
      .skip) (
      .exit 0))) (
    .seq (
     .block 1 (
      .seq (
       .region [
         ⟨(some 23), none, .mov (.tmp 7)⟩,
         ⟨(some 24), none, .mov (.tmp 8)⟩,
         ⟨(some 25), none, .iadr 1 (.tmp 23) (.tmp 24)⟩,
         ⟨(some 26), none, .load 1 false (.tmp 25)⟩,
         ⟨(some 27), none, .mov (.tmp 1)⟩,
         ⟨(some 28), none, .call 116 [(.tmp 26), (.tmp 27)]⟩,
         ⟨(some 22), none, .mov (.tmp 28)⟩,
         ⟨(some 29), none, .ext (.tmp 22) 0⟩,
         ⟨(some 30), none, .ext (.tmp 22) 1⟩,
         ⟨(some 9), none, .mov (.tmp 29)⟩,
         ⟨(some 10), none, .mov (.tmp 30)⟩]) (
       .seq (
        .region [
          ⟨(some 32), none, .mov (.tmp 10)⟩,
          ⟨(some 33), none, .mov (.tmp 2)⟩,
          ⟨(some 34), none, .calle 117 [(.tmp 32), (.tmp 33), (.cst (.p (.int .u64 0)))]⟩,
          ⟨(some 31), none, .mov (.tmp 34)⟩,
          ⟨(some 35), none, .ext (.tmp 31) 0⟩,
          ⟨(some 36), none, .ext (.tmp 31) 1⟩,
          ⟨(some 11), none, .mov (.tmp 35)⟩,
          ⟨(some 12), none, .mov (.tmp 36)⟩]) (
        .seq (
         .region [
           ⟨(some 37), none, .mov (.tmp 7)⟩,
           ⟨(some 38), none, .mov (.tmp 8)⟩,
           ⟨(some 39), none, .mov (.tmp 11)⟩,
           ⟨(some 40), none, .iadr 1 (.tmp 37) (.tmp 38)⟩,
           ⟨none, none, .store 1 (.tmp 40) (.tmp 39)⟩]) (
         .region [
           ⟨(some 41), none, .mov (.tmp 9)⟩,
           ⟨(some 42), none, .mov (.tmp 12)⟩,
           ⟨(some 43), none, .bin .add (.tmp 41) (.tmp 42)⟩,
           ⟨(some 2), none, .mov (.tmp 43)⟩]))))) (
     .region [
       ⟨(some 20), none, .mov (.tmp 8)⟩,
       ⟨(some 21), none, .bin .add (.tmp 20) (.cst (.p (.int .i64 1)))⟩,
       ⟨(some 8), none, .mov (.tmp 21)⟩]))))
def lf69 : LFunc := ⟨51, [(.slot 6)], (
  .seq (
   .region [
     ⟨(some 6), none, .mov (.cst (.tight []))⟩]) (
   .seq (
    .region [
      ⟨(some 13), none, .buildSl 1 40 (.p (.int .u64 0)) 0 []⟩,
      ⟨(some 14), none, .mov (.tmp 0)⟩,
      ⟨(some 15), none, .app 1 8 40 (.tmp 13) (.tmp 14)⟩,
      ⟨(some 7), none, .mov (.tmp 15)⟩]) (
    .seq (
     .seq (
      .region [
        ⟨(some 8), none, .mov (.cst (.p (.int .i64 0)))⟩]) (
      lf69_B0)) (
     .seq (
      .seq (
       .region [
         ⟨(some 44), none, .mov (.tmp 2)⟩,
         ⟨(some 45), none, .bin .gtr (.tmp 44) (.cst (.p (.int .u64 0)))⟩]) (
       .cond (.tmp 45) (
        .region [
          ⟨(some 46), none, .mov (.tmp 7)⟩,
          ⟨(some 47), none, .mov (.tmp 2)⟩,
          ⟨(some 48), none, .buildSl 1 40 (.p (.int .u64 0)) 1 [(0, (.tmp 47))]⟩,
          ⟨(some 49), none, .app 1 8 40 (.tmp 46) (.tmp 48)⟩,
          ⟨(some 7), none, .mov (.tmp 49)⟩]) (
        .skip))) (
      .seq (
       .region [
         ⟨(some 50), none, .mov (.tmp 7)⟩,
         ⟨(some 6), none, .mov (.tmp 50)⟩]) (
       .ret))))))⟩
theorem low69 : lowFunc Tryz.prog gl0 69 = some lf69 := by kernel_rfl
def lf78_B0 : LCode := .block 0 (
  .loop (
   .seq (
    .seq (
     .region [
       ⟨(some 6), none, .mov (.tmp 3)⟩,
       ⟨(some 7), none, .bin .gtr (.tmp 6) (.cst (.p (.int .i64 0)))⟩,
       ⟨(some 8), none, .mov (.tmp 7)⟩,
       ⟨(some 9), (some (8, true)), .mov (.tmp 0)⟩,
       ⟨(some 10), (some (8, true)), .mov (.tmp 3)⟩,
       ⟨(some 11), (some (8, true)), .bin .sub (.tmp 10) (.cst (.p (.int .i64 1)))⟩,
       ⟨(some 12), (some (8, true)), .iadr 1 (.tmp 9) (.tmp 11)⟩,
       ⟨(some 13), (some (8, true)), .load 1 false (.tmp 12)⟩,
       ⟨(some 14), (some (8, true)), .bin .eql (.tmp 13) (.cst (.p (.int .u64 0)))⟩,
       ⟨(some 15), none, .pick (.tmp 8) (.tmp 14) (.cst (.p (.bool false)))⟩]) (
     .cond (.tmp 15) (
      .skip) (
      .exit 0))) (
    .block 1 (
     .region [
       ⟨(some 16), none, .mov (.tmp 3)⟩,
       ⟨(some 17), none, .bin .sub (.tmp 16) (.cst (.p (.int .i64 1)))⟩,
       ⟨(some 3), none, .mov (.tmp 17)⟩]))))
def lf78 : LFunc := ⟨23, [(.slot 2)], (
  .seq (
   .region [
     ⟨(some 2), none, .mov (.cst (.tight []))⟩]) (
   .seq (
    .region [
      ⟨(some 4), none, .mov (.tmp 0)⟩,
      ⟨(some 5), none, .len (.tmp 4)⟩,
      ⟨(some 3), none, .mov (.tmp 5)⟩]) (
    .seq (
     lf78_B0) (
     .seq (
      .region [
        ⟨(some 18), none, .buildSl 1 40 (.p (.int .u64 0)) 0 []⟩,
        ⟨(some 19), none, .mov (.tmp 0)⟩,
        ⟨(some 20), none, .mov (.tmp 3)⟩,
        ⟨(some 21), none, .slSl 1 (.tmp 19) none (some (.tmp 20)) none⟩,
        ⟨(some 22), none, .app 1 8 40 (.tmp 18) (.tmp 21)⟩,
        ⟨(some 2), none, .mov (.tmp 22)⟩]) (
      .ret)))))⟩
theorem low78 : lowFunc Tryz.prog gl0 78 = some lf78 := by kernel_rfl
def lf80 : LFunc := ⟨8, [(.slot 2), (.slot 3)], (
  .seq (
   .region [
     ⟨(some 2), none, .mov (.cst (.tight []))⟩,
     ⟨(some 3), none, .mov (.cst (.p (.int .i64 0)))⟩]) (
   .seq (
    .seq (
     .region [
       ⟨(some 4), none, .mov (.tmp 0)⟩,
       ⟨(some 5), none, .len (.tmp 4)⟩,
       ⟨(some 6), none, .bin .gtr (.tmp 5) (.cst (.p (.int .i64 64)))⟩]) (
     .cond (.tmp 6) (
      .seq (
       .region [
         ⟨(some 2), none, .mov (.cst (.tight []))⟩,
         ⟨(some 3), none, .mov (.cst (.p (.int .i64 4)))⟩]) (
       .ret)) (
      .skip))) (
    .seq (
     .region [
       ⟨(some 7), none, .mov (.tmp 0)⟩,
       ⟨(some 2), none, .mov (.tmp 7)⟩,
       ⟨(some 3), none, .mov (.cst (.p (.int .i64 0)))⟩]) (
     .ret))))⟩
theorem low80 : lowFunc Tryz.prog gl0 80 = some lf80 := by kernel_rfl
def lf81_B0 : LCode := .block 0 (
  .loop (
   .seq (
    .seq (
     .region [
       ⟨(some 12), none, .mov (.tmp 7)⟩,
       ⟨(some 13), none, .mov (.tmp 0)⟩,
       ⟨(some 14), none, .len (.tmp 13)⟩,
       ⟨(some 15), none, .bin .lss (.tmp 12) (.tmp 14)⟩,
       ⟨(some 16), none, .mov (.tmp 15)⟩,
       ⟨(some 17), (some (16, false)), .mov (.tmp 7)⟩,
       ⟨(some 18), (some (16, false)), .mov (.tmp 1)⟩,
       ⟨(some 19), (some (16, false)), .len (.tmp 18)⟩,
       ⟨(some 20), (some (16, false)), .bin .lss (.tmp 17) (.tmp 19)⟩,
       ⟨(some 21), none, .pick (.tmp 16) (.cst (.p (.bool true))) (.tmp 20)⟩]) (
     .cond (.tmp 21) (
      .skip) (
      .exit 0))) (
    .seq (
     .block 1 (
      .seq (
       .region [
         ⟨(some 8), none, .mov (.cst (.p (.int .u64 0)))⟩,
         ⟨(some 9), none, .mov (.cst (.p (.int .u64 0)))⟩]) (
       .seq (
        .seq (
         .region [
           ⟨(some 24), none, .mov (.tmp 7)⟩,
           ⟨(some 25), none, .mov (.tmp 0)⟩,
           ⟨(some 26), none, .len (.tmp 25)⟩,
           ⟨(some 27), none, .bin .lss (.tmp 24) (.tmp 26)⟩]) (
         .cond (.tmp 27) (
          .region [
            ⟨(some 28), none, .mov (.tmp 0)⟩,
            ⟨(some 29), none, .mov (.tmp 7)⟩,
            ⟨(some 30), none, .iadr 1 (.tmp 28) (.tmp 29)⟩,
            ⟨(some 31), none, .load 1 false (.tmp 30)⟩,
            ⟨(some 8), none, .mov (.tmp 31)⟩]) (
          .skip))) (
        .seq (
         .seq (
          .region [
            ⟨(some 32), none, .mov (.tmp 7)⟩,
            ⟨(some 33), none, .mov (.tmp 1)⟩,
            ⟨(some 34), none, .len (.tmp 33)⟩,
            ⟨(some 35), none, .bin .lss (.tmp 32) (.tmp 34)⟩]) (
          .cond (.tmp 35) (
           .region [
             ⟨(some 36), none, .mov (.tmp 1)⟩,
             ⟨(some 37), none, .mov (.tmp 7)⟩,
             ⟨(some 38), none, .iadr 1 (.tmp 36) (.tmp 37)⟩,
             ⟨(some 39), none, .load 1 false (.tmp 38)⟩,
             ⟨(some 9), none, .mov (.tmp 39)⟩]) (
           .skip))) (
         .seq (
          .region [
            ⟨(some 41), none, .mov (.tmp 8)⟩,
            ⟨(some 42), none, .mov (.tmp 9)⟩,
            ⟨(some 43), none, .mov (.tmp 6)⟩,
            ⟨(some 44), none, .calle 117 [(.tmp 41), (.tmp 42), (.tmp 43)]⟩,
            ⟨(some 40), none, .mov (.tmp 44)⟩,
            ⟨(some 45), none, .ext (.tmp 40) 0⟩,
            ⟨(some 46), none, .ext (.tmp 40) 1⟩,
            ⟨(some 10), none, .mov (.tmp 45)⟩,
            ⟨(some 11), none, .mov (.tmp 46)⟩]) (
          .seq (
           .region [
             ⟨(some 47), none, .mov (.tmp 5)⟩,
             ⟨(some 48), none, .mov (.tmp 10)⟩,
             ⟨(some 49), none, .buildSl 1 40 (.p (.int .u64 0)) 1 [(0, (.tmp 48))]⟩,
             ⟨(some 50), none, .app 1 8 40 (.tmp 47) (.tmp 49)⟩,
             ⟨(some 5), none, .mov (.tmp 50)⟩]) (
           .region [
             ⟨(some 51), none, .mov (.tmp 11)⟩,
             ⟨(some 6), none, .mov (.tmp 51)⟩]))))))) (
     .region [
       ⟨(some 22), none, .mov (.tmp 7)⟩,
       ⟨(some 23), none, .bin .add (.tmp 22) (.cst (.p (.int .i64 1)))⟩,
       ⟨(some 7), none, .mov (.tmp 23)⟩]))))
def lf81 : LFunc := ⟨60, [(.slot 4)], (
  .seq (
   .region [
     ⟨(some 4), none, .mov (.cst (.tight []))⟩]) (
   .seq (
    .region [
      ⟨(some 5), none, .mov (.cst (.tight []))⟩]) (
    .seq (
     .region [
       ⟨(some 6), none, .mov (.cst (.p (.int .u64 0)))⟩]) (
     .seq (
      .seq (
       .region [
         ⟨(some 7), none, .mov (.cst (.p (.int .i64 0)))⟩]) (
       lf81_B0)) (
      .seq (
       .seq (
        .region [
          ⟨(some 52), none, .mov (.tmp 6)⟩,
          ⟨(some 53), none, .bin .gtr (.tmp 52) (.cst (.p (.int .u64 0)))⟩]) (
        .cond (.tmp 53) (
         .region [
           ⟨(some 54), none, .mov (.tmp 5)⟩,
           ⟨(some 55), none, .mov (.tmp 6)⟩,
           ⟨(some 56), none, .buildSl 1 40 (.p (.int .u64 0)) 1 [(0, (.tmp 55))]⟩,
           ⟨(some 57), none, .app 1 8 40 (.tmp 54) (.tmp 56)⟩,
           ⟨(some 5), none, .mov (.tmp 57)⟩]) (
         .skip))) (
       .seq (
        .region [
          ⟨(some 58), none, .mov (.tmp 5)⟩,
          ⟨(some 59), none, .call 78 [(.tmp 58)]⟩,
          ⟨(some 4), none, .mov (.tmp 59)⟩]) (
        .ret)))))))⟩
theorem low81 : lowFunc Tryz.prog gl0 81 = some lf81 := by kernel_rfl
def lf84_B0 : LCode := .block 0 (
  .loop (
   .seq (
    .seq (
     .region [
       ⟨(some 19), none, .mov (.tmp 5)⟩,
       ⟨(some 20), none, .bin .geq (.tmp 19) (.cst (.p (.int .i64 0)))⟩]) (
     .cond (.tmp 20) (
      .skip) (
      .exit 0))) (
    .seq (
     .block 1 (
      .seq (
       .seq (
        .regionD [
          ⟨(some 23), none, .mov (.tmp 0)⟩,
          ⟨(some 24), none, .mov (.tmp 5)⟩,
          ⟨(some 25), none, .iadr 1 (.tmp 23) (.tmp 24)⟩,
          ⟨(some 26), none, .load 1 false (.tmp 25)⟩,
          ⟨(some 27), none, .mov (.tmp 1)⟩,
          ⟨(some 28), none, .mov (.tmp 5)⟩,
          ⟨(some 29), none, .iadr 1 (.tmp 27) (.tmp 28)⟩,
          ⟨(some 30), none, .load 1 false (.tmp 29)⟩,
          ⟨(some 31), none, .bin .lss (.tmp 26) (.tmp 30)⟩]) (
        .cond (.tmp 31) (
         .seq (
          .region [
            ⟨(some 4), none, .mov (.cst (.p (.int .i64 (-1))))⟩]) (
          .ret)) (
         .skip))) (
       .seq (
        .regionD [
          ⟨(some 32), none, .mov (.tmp 0)⟩,
          ⟨(some 33), none, .mov (.tmp 5)⟩,
          ⟨(some 34), none, .iadr 1 (.tmp 32) (.tmp 33)⟩,
          ⟨(some 35), none, .load 1 false (.tmp 34)⟩,
          ⟨(some 36), none, .mov (.tmp 1)⟩,
          ⟨(some 37), none, .mov (.tmp 5)⟩,
          ⟨(some 38), none, .iadr 1 (.tmp 36) (.tmp 37)⟩,
          ⟨(some 39), none, .load 1 false (.tmp 38)⟩,
          ⟨(some 40), none, .bin .gtr (.tmp 35) (.tmp 39)⟩]) (
        .cond (.tmp 40) (
         .seq (
          .region [
            ⟨(some 4), none, .mov (.cst (.p (.int .i64 1)))⟩]) (
          .ret)) (
         .skip))))) (
     .region [
       ⟨(some 21), none, .mov (.tmp 5)⟩,
       ⟨(some 22), none, .bin .sub (.tmp 21) (.cst (.p (.int .i64 1)))⟩,
       ⟨(some 5), none, .mov (.tmp 22)⟩]))))
def lf84 : LFunc := ⟨41, [(.slot 4)], (
  .seq (
   .region [
     ⟨(some 4), none, .mov (.cst (.p (.int .i64 0)))⟩]) (
   .seq (
    .seq (
     .region [
       ⟨(some 6), none, .mov (.tmp 0)⟩,
       ⟨(some 7), none, .len (.tmp 6)⟩,
       ⟨(some 8), none, .mov (.tmp 1)⟩,
       ⟨(some 9), none, .len (.tmp 8)⟩,
       ⟨(some 10), none, .bin .neq (.tmp 7) (.tmp 9)⟩]) (
     .cond (.tmp 10) (
      .seq (
       .seq (
        .region [
          ⟨(some 11), none, .mov (.tmp 0)⟩,
          ⟨(some 12), none, .len (.tmp 11)⟩,
          ⟨(some 13), none, .mov (.tmp 1)⟩,
          ⟨(some 14), none, .len (.tmp 13)⟩,
          ⟨(some 15), none, .bin .lss (.tmp 12) (.tmp 14)⟩]) (
        .cond (.tmp 15) (
         .seq (
          .region [
            ⟨(some 4), none, .mov (.cst (.p (.int .i64 (-1))))⟩]) (
          .ret)) (
         .skip))) (
       .seq (
        .region [
          ⟨(some 4), none, .mov (.cst (.p (.int .i64 1)))⟩]) (
        .ret))) (
      .skip))) (
    .seq (
     .seq (
      .region [
        ⟨(some 16), none, .mov (.tmp 0)⟩,
        ⟨(some 17), none, .len (.tmp 16)⟩,
        ⟨(some 18), none, .bin .sub (.tmp 17) (.cst (.p (.int .i64 1)))⟩,
        ⟨(some 5), none, .mov (.tmp 18)⟩]) (
      lf84_B0)) (
     .seq (
      .region [
        ⟨(some 4), none, .mov (.cst (.p (.int .i64 0)))⟩]) (
      .ret)))))⟩
theorem low84 : lowFunc Tryz.prog gl0 84 = some lf84 := by kernel_rfl
def lf85_B0 : LCode := .block 0 (
  .loop (
   .seq (
    .seq (
     .region [
       ⟨(some 11), none, .mov (.tmp 7)⟩,
       ⟨(some 12), none, .mov (.tmp 0)⟩,
       ⟨(some 13), none, .len (.tmp 12)⟩,
       ⟨(some 14), none, .bin .lss (.tmp 11) (.tmp 13)⟩]) (
     .cond (.tmp 14) (
      .skip) (
      .exit 0))) (
    .seq (
     .block 1 (
      .seq (
       .region [
         ⟨(some 8), none, .mov (.cst (.p (.int .u64 0)))⟩]) (
       .seq (
        .seq (
         .region [
           ⟨(some 17), none, .mov (.tmp 7)⟩,
           ⟨(some 18), none, .mov (.tmp 1)⟩,
           ⟨(some 19), none, .len (.tmp 18)⟩,
           ⟨(some 20), none, .bin .lss (.tmp 17) (.tmp 19)⟩]) (
         .cond (.tmp 20) (
          .region [
            ⟨(some 21), none, .mov (.tmp 1)⟩,
            ⟨(some 22), none, .mov (.tmp 7)⟩,
            ⟨(some 23), none, .iadr 1 (.tmp 21) (.tmp 22)⟩,
            ⟨(some 24), none, .load 1 false (.tmp 23)⟩,
            ⟨(some 8), none, .mov (.tmp 24)⟩]) (
          .skip))) (
        .seq (
         .region [
           ⟨(some 26), none, .mov (.tmp 0)⟩,
           ⟨(some 27), none, .mov (.tmp 7)⟩,
           ⟨(some 28), none, .iadr 1 (.tmp 26) (.tmp 27)⟩,
           ⟨(some 29), none, .load 1 false (.tmp 28)⟩,
           ⟨(some 30), none, .mov (.tmp 8)⟩,
           ⟨(some 31), none, .mov (.tmp 6)⟩,
           ⟨(some 32), none, .calle 128 [(.tmp 29), (.tmp 30), (.tmp 31)]⟩,
           ⟨(some 25), none, .mov (.tmp 32)⟩,
           ⟨(some 33), none, .ext (.tmp 25) 0⟩,
           ⟨(some 34), none, .ext (.tmp 25) 1⟩,
           ⟨(some 9), none, .mov (.tmp 33)⟩,
           ⟨(some 10), none, .mov (.tmp 34)⟩]) (
         .seq (
          .region [
            ⟨(some 35), none, .mov (.tmp 5)⟩,
            ⟨(some 36), none, .mov (.tmp 9)⟩,
            ⟨(some 37), none, .buildSl 1 40 (.p (.int .u64 0)) 1 [(0, (.tmp 36))]⟩,
            ⟨(some 38), none, .app 1 8 40 (.tmp 35) (.tmp 37)⟩,
            ⟨(some 5), none, .mov (.tmp 38)⟩]) (
          .region [
            ⟨(some 39), none, .mov (.tmp 10)⟩,
            ⟨(some 6), none, .mov (.tmp 39)⟩])))))) (
     .region [
       ⟨(some 15), none, .mov (.tmp 7)⟩,
       ⟨(some 16), none, .bin .add (.tmp 15) (.cst (.p (.int .i64 1)))⟩,
       ⟨(some 7), none, .mov (.tmp 16)⟩]))))
def lf85 : LFunc := ⟨42, [(.slot 4)], (
  .seq (
   .region [
     ⟨(some 4), none, .mov (.cst (.tight []))⟩]) (
   .seq (
    .region [
      ⟨(some 5), none, .mov (.cst (.tight []))⟩]) (
    .seq (
     .region [
       ⟨(some 6), none, .mov (.cst (.p (.int .u64 0)))⟩]) (
     .seq (
      .seq (
       .region [
         ⟨(some 7), none, .mov (.cst (.p (.int .i64 0)))⟩]) (
       lf85_B0)) (
      .seq (
       .region [
         ⟨(some 40), none, .mov (.tmp 5)⟩,
         ⟨(some 41), none, .call 78 [(.tmp 40)]⟩,
         ⟨(some 4), none, .mov (.tmp 41)⟩]) (
       .ret))))))⟩
theorem low85 : lowFunc Tryz.prog gl0 85 = some lf85 := by kernel_rfl
def lf87_B0 : LCode := .block 2 (
  .loop (
   .seq (
    .seq (
     .region [
       ⟨(some 27), none, .mov (.tmp 8)⟩,
       ⟨(some 28), none, .mov (.tmp 1)⟩,
       ⟨(some 29), none, .len (.tmp 28)⟩,
       ⟨(some 30), none, .bin .lss (.tmp 27) (.tmp 29)⟩]) (
     .cond (.tmp 30) (
      .skip) (
      .exit 2))) (
    .seq (
     .block 3 (
      .seq (
       .regionD [
         ⟨(some 34), none, .mov (.tmp 0)⟩,
         ⟨(some 35), none, .mov (.tmp 6)⟩,
         ⟨(some 36), none, .iadr 1 (.tmp 34) (.tmp 35)⟩,
         ⟨(some 37), none, .load 1 false (.tmp 36)⟩,
         ⟨(some 38), none, .mov (.tmp 1)⟩,
         ⟨(some 39), none, .mov (.tmp 8)⟩,
         ⟨(some 40), none, .iadr 1 (.tmp 38) (.tmp 39)⟩,
         ⟨(some 41), none, .load 1 false (.tmp 40)⟩,
         ⟨(some 42), none, .call 116 [(.tmp 37), (.tmp 41)]⟩,
         ⟨(some 33), none, .mov (.tmp 42)⟩,
         ⟨(some 43), none, .ext (.tmp 33) 0⟩,
         ⟨(some 44), none, .ext (.tmp 33) 1⟩,
         ⟨(some 9), none, .mov (.tmp 43)⟩,
         ⟨(some 10), none, .mov (.tmp 44)⟩]) (
       .seq (
        .region [
          ⟨(some 46), none, .mov (.tmp 5)⟩,
          ⟨(some 47), none, .mov (.tmp 6)⟩,
          ⟨(some 48), none, .mov (.tmp 8)⟩,
          ⟨(some 49), none, .bin .add (.tmp 47) (.tmp 48)⟩,
          ⟨(some 50), none, .iadr 1 (.tmp 46) (.tmp 49)⟩,
          ⟨(some 51), none, .load 1 false (.tmp 50)⟩,
          ⟨(some 52), none, .mov (.tmp 10)⟩,
          ⟨(some 53), none, .calle 117 [(.tmp 51), (.tmp 52), (.cst (.p (.int .u64 0)))]⟩,
          ⟨(some 45), none, .mov (.tmp 53)⟩,
          ⟨(some 54), none, .ext (.tmp 45) 0⟩,
          ⟨(some 55), none, .ext (.tmp 45) 1⟩,
          ⟨(some 11), none, .mov (.tmp 54)⟩,
          ⟨(some 12), none, .mov (.tmp 55)⟩]) (
        .seq (
         .region [
           ⟨(some 57), none, .mov (.tmp 11)⟩,
           ⟨(some 58), none, .mov (.tmp 7)⟩,
           ⟨(some 59), none, .calle 117 [(.tmp 57), (.tmp 58), (.cst (.p (.int .u64 0)))]⟩,
           ⟨(some 56), none, .mov (.tmp 59)⟩,
           ⟨(some 60), none, .ext (.tmp 56) 0⟩,
           ⟨(some 61), none, .ext (.tmp 56) 1⟩,
           ⟨(some 13), none, .mov (.tmp 60)⟩,
           ⟨(some 14), none, .mov (.tmp 61)⟩]) (
         .seq (
          .region [
            ⟨(some 62), none, .mov (.tmp 5)⟩,
            ⟨(some 63), none, .mov (.tmp 6)⟩,
            ⟨(some 64), none, .mov (.tmp 8)⟩,
            ⟨(some 65), none, .bin .add (.tmp 63) (.tmp 64)⟩,
            ⟨(some 66), none, .mov (.tmp 13)⟩,
            ⟨(some 67), none, .iadr 1 (.tmp 62) (.tmp 65)⟩,
            ⟨none, none, .store 1 (.tmp 67) (.tmp 66)⟩]) (
          .region [
            ⟨(some 68), none, .mov (.tmp 9)⟩,
            ⟨(some 69), none, .mov (.tmp 12)⟩,
            ⟨(some 70), none, .bin .add (.tmp 68) (.tmp 69)⟩,
            ⟨(some 71), none, .mov (.tmp 14)⟩,
            ⟨(some 72), none, .bin .add (.tmp 70) (.tmp 71)⟩,
            ⟨(some 7), none, .mov (.tmp 72)⟩])))))) (
     .region [
       ⟨(some 31), none, .mov (.tmp 8)⟩,
       ⟨(some 32), none, .bin .add (.tmp 31) (.cst (.p (.int .i64 1)))⟩,
       ⟨(some 8), none, .mov (.tmp 32)⟩]))))
def lf87_B1 : LCode := .block 0 (
  .loop (
   .seq (
    .seq (
     .region [
       ⟨(some 21), none, .mov (.tmp 6)⟩,
       ⟨(some 22), none, .mov (.tmp 0)⟩,
       ⟨(some 23), none, .len (.tmp 22)⟩,
       ⟨(some 24), none, .bin .lss (.tmp 21) (.tmp 23)⟩]) (
     .cond (.tmp 24) (
      .skip) (
      .exit 0))) (
    .seq (
     .block 1 (
      .seq (
       .region [
         ⟨(some 7), none, .mov (.cst (.p (.int .u64 0)))⟩]) (
       .seq (
        .seq (
         .region [
           ⟨(some 8), none, .mov (.cst (.p (.int .i64 0)))⟩]) (
         lf87_B0)) (
        .region [
          ⟨(some 73), none, .mov (.tmp 5)⟩,
          ⟨(some 74), none, .mov (.tmp 6)⟩,
          ⟨(some 75), none, .mov (.tmp 1)⟩,
          ⟨(some 76), none, .len (.tmp 75)⟩,
          ⟨(some 77), none, .bin .add (.tmp 74) (.tmp 76)⟩,
          ⟨(some 78), none, .mov (.tmp 7)⟩,
          ⟨(some 79), none, .iadr 1 (.tmp 73) (.tmp 77)⟩,
          ⟨none, none, .store 1 (.tmp 79) (.tmp 78)⟩])))) (
     .region [
       ⟨(some 25), none, .mov (.tmp 6)⟩,
       ⟨(some 26), none, .bin .add (.tmp 25) (.cst (.p (.int .i64 1)))⟩,
       ⟨(some 6), none, .mov (.tmp 26)⟩]))))
def lf87 : LFunc := ⟨82, [(.slot 4)], (
  .seq (
   .region [
     ⟨(some 4), none, .mov (.cst (.tight []))⟩]) (
   .seq (
    .region [
      ⟨(some 15), none, .mov (.tmp 0)⟩,
      ⟨(some 16), none, .len (.tmp 15)⟩,
      ⟨(some 17), none, .mov (.tmp 1)⟩,
      ⟨(some 18), none, .len (.tmp 17)⟩,
      ⟨(some 19), none, .bin .add (.tmp 16) (.tmp 18)⟩,
      ⟨(some 20), none, .mksl 1 8 40 (.p (.int .u64 0)) (.tmp 19) (.tmp 19)⟩,
      ⟨(some 5), none, .mov (.tmp 20)⟩]) (
    .seq (
     .seq (
      .region [
        ⟨(some 6), none, .mov (.cst (.p (.int .i64 0)))⟩]) (
      lf87_B1)) (
     .seq (
      .region [
        ⟨(some 80), none, .mov (.tmp 5)⟩,
        ⟨(some 81), none, .call 78 [(.tmp 80)]⟩,
        ⟨(some 4), none, .mov (.tmp 81)⟩]) (
      .ret)))))⟩
theorem low87 : lowFunc Tryz.prog gl0 87 = some lf87 := by kernel_rfl
def lf94_B0 : LCode := .block 0 (
  .loop (
   .seq (
    .seq (
     .region [
       ⟨(some 24), none, .mov (.tmp 8)⟩,
       ⟨(some 25), none, .bin .geq (.tmp 24) (.cst (.p (.int .i64 0)))⟩]) (
     .cond (.tmp 25) (
      .skip) (
      .exit 0))) (
    .seq (
     .block 1 (
      .seq (
       .region [
         ⟨(some 28), none, .mov (.tmp 1)⟩,
         ⟨(some 29), none, .mov (.tmp 8)⟩,
         ⟨(some 30), none, .call 96 [(.tmp 28), (.tmp 29)]⟩,
         ⟨(some 9), none, .mov (.tmp 30)⟩]) (
       .seq (
        .region [
          ⟨(some 31), none, .mov (.tmp 7)⟩,
          ⟨(some 32), none, .mov (.tmp 9)⟩,
          ⟨(some 33), none, .call 84 [(.tmp 31), (.tmp 32)]⟩,
          ⟨(some 34), none, .bin .geq (.tmp 33) (.cst (.p (.int .i64 0)))⟩]) (
        .cond (.tmp 34) (
         .seq (
          .region [
            ⟨(some 35), none, .mov (.tmp 7)⟩,
            ⟨(some 36), none, .mov (.tmp 9)⟩,
            ⟨(some 37), none, .call 85 [(.tmp 35), (.tmp 36)]⟩,
            ⟨(some 7), none, .mov (.tmp 37)⟩]) (
          .region [
            ⟨(some 38), none, .mov (.tmp 6)⟩,
            ⟨(some 39), none, .mov (.tmp 8)⟩,
            ⟨(some 40), none, .bin .quo (.tmp 39) (.cst (.p (.int .i64 64)))⟩,
            ⟨(some 41), none, .mov (.tmp 6)⟩,
            ⟨(some 42), none, .mov (.tmp 8)⟩,
            ⟨(some 43), none, .bin .quo (.tmp 42) (.cst (.p (.int .i64 64)))⟩,
            ⟨(some 44), none, .iadr 1 (.tmp 41) (.tmp 43)⟩,
            ⟨(some 45), none, .load 1 false (.tmp 44)⟩,
            ⟨(some 46), none, .mov (.tmp 8)⟩,
            ⟨(some 47), none, .bin .rem (.tmp 46) (.cst (.p (.int .i64 64)))⟩,
            ⟨(some 48), none, .conv (.toInt .u64) (.tmp 47)⟩,
            ⟨(some 49), none, .bin .shl (.cst (.p (.int .u64 1))) (.tmp 48)⟩,
            ⟨(some 50), none, .bin .or (.tmp 45) (.tmp 49)⟩,
            ⟨(some 51), none, .iadr 1 (.tmp 38) (.tmp 40)⟩,
            ⟨none, none, .store 1 (.tmp 51) (.tmp 50)⟩])) (
         .skip))))) (
     .region [
       ⟨(some 26), none, .mov (.tmp 8)⟩,
       ⟨(some 27), none, .bin .sub (.tmp 26) (.cst (.p (.int .i64 1)))⟩,
       ⟨(some 8), none, .mov (.tmp 27)⟩]))))
def lf94 : LFunc := ⟨55, [(.slot 4), (.slot 5)], (
  .seq (
   .region [
     ⟨(some 4), none, .mov (.cst (.tight []))⟩,
     ⟨(some 5), none, .mov (.cst (.tight []))⟩]) (
   .seq (
    .seq (
     .region [
       ⟨(some 10), none, .mov (.tmp 0)⟩,
       ⟨(some 11), none, .mov (.tmp 1)⟩,
       ⟨(some 12), none, .call 84 [(.tmp 10), (.tmp 11)]⟩,
       ⟨(some 13), none, .bin .lss (.tmp 12) (.cst (.p (.int .i64 0)))⟩]) (
     .cond (.tmp 13) (
      .seq (
       .region [
         ⟨(some 14), none, .mov (.tmp 0)⟩,
         ⟨(some 4), none, .mov (.cst (.tight []))⟩,
         ⟨(some 5), none, .mov (.tmp 14)⟩]) (
       .ret)) (
      .skip))) (
    .seq (
     .region [
       ⟨(some 15), none, .mov (.tmp 0)⟩,
       ⟨(some 16), none, .len (.tmp 15)⟩,
       ⟨(some 17), none, .mksl 1 8 40 (.p (.int .u64 0)) (.tmp 16) (.tmp 16)⟩,
       ⟨(some 6), none, .mov (.tmp 17)⟩]) (
     .seq (
      .region [
        ⟨(some 18), none, .mov (.tmp 0)⟩,
        ⟨(some 7), none, .mov (.tmp 18)⟩]) (
      .seq (
       .seq (
        .region [
          ⟨(some 19), none, .mov (.tmp 0)⟩,
          ⟨(some 20), none, .call 39 [(.tmp 19)]⟩,
          ⟨(some 21), none, .mov (.tmp 1)⟩,
          ⟨(some 22), none, .call 39 [(.tmp 21)]⟩,
          ⟨(some 23), none, .bin .sub (.tmp 20) (.tmp 22)⟩,
          ⟨(some 8), none, .mov (.tmp 23)⟩]) (
        lf94_B0)) (
       .seq (
        .region [
          ⟨(some 52), none, .mov (.tmp 6)⟩,
          ⟨(some 53), none, .call 78 [(.tmp 52)]⟩,
          ⟨(some 54), none, .mov (.tmp 7)⟩,
          ⟨(some 4), none, .mov (.tmp 53)⟩,
          ⟨(some 5), none, .mov (.tmp 54)⟩]) (
        .ret)))))))⟩
theorem low94 : lowFunc Tryz.prog gl0 94 = some lf94 := by kernel_rfl
def lf95_B0 : LCode := .block 0 (
  .loop (
   .seq (
    .seq (
     .region [
       ⟨(some 7), none, .mov (.tmp 1)⟩,
       ⟨(some 8), none, .len (.tmp 7)⟩,
       ⟨(some 9), none, .bin .gtr (.tmp 8) (.cst (.p (.int .i64 0)))⟩]) (
     .cond (.tmp 9) (
      .skip) (
      .exit 0))) (
    .block 1 (
     .seq (
      .region [
        ⟨(some 11), none, .mov (.tmp 0)⟩,
        ⟨(some 12), none, .mov (.tmp 1)⟩,
        ⟨(some 13), none, .call 94 [(.tmp 11), (.tmp 12)]⟩,
        ⟨(some 10), none, .mov (.tmp 13)⟩,
        ⟨(some 14), none, .ext (.tmp 10) 0⟩,
        ⟨(some 15), none, .ext (.tmp 10) 1⟩,
        ⟨(some 5), none, .mov (.tmp 14)⟩,
        ⟨(some 6), none, .mov (.tmp 15)⟩]) (
      .region [
        ⟨(some 16), none, .mov (.tmp 1)⟩,
        ⟨(some 17), none, .mov (.tmp 6)⟩,
        ⟨(some 0), none, .mov (.tmp 16)⟩,
        ⟨(some 1), none, .mov (.tmp 17)⟩])))))
def lf95 : LFunc := ⟨19, [(.slot 4)], (
  .seq (
   .region [
     ⟨(some 4), none, .mov (.cst (.tight []))⟩]) (
   .seq (
    lf95_B0) (
    .seq (
     .region [
       ⟨(some 18), none, .mov (.tmp 0)⟩,
       ⟨(some 4), none, .mov (.tmp 18)⟩]) (
     .ret))))⟩
theorem low95 : lowFunc Tryz.prog gl0 95 = some lf95 := by kernel_rfl
def lf96_B0 : LCode := .block 0 (
  .loop (
   .seq (
    .seq (
     .region [
       ⟨(some 31), none, .mov (.tmp 8)⟩,
       ⟨(some 32), none, .mov (.tmp 6)⟩,
       ⟨(some 33), none, .len (.tmp 32)⟩,
       ⟨(some 34), none, .bin .lss (.tmp 31) (.tmp 33)⟩,
       ⟨(some 35), none, .mov (.tmp 34)⟩,
       ⟨(some 36), (some (35, true)), .mov (.tmp 7)⟩,
       ⟨(some 37), (some (35, true)), .bin .gtr (.tmp 36) (.cst (.p (.int .u64 0)))⟩,
       ⟨(some 38), none, .pick (.tmp 35) (.tmp 37) (.cst (.p (.bool false)))⟩]) (
     .cond (.tmp 38) (
      .skip) (
      .exit 0))) (
    .seq (
     .block 1 (
      .seq (
       .region [
         ⟨(some 41), none, .mov (.tmp 6)⟩,
         ⟨(some 42), none, .mov (.tmp 8)⟩,
         ⟨(some 43), none, .mov (.tmp 6)⟩,
         ⟨(some 44), none, .mov (.tmp 8)⟩,
         ⟨(some 45), none, .iadr 1 (.tmp 43) (.tmp 44)⟩,
         ⟨(some 46), none, .load 1 false (.tmp 45)⟩,
         ⟨(some 47), none, .mov (.tmp 7)⟩,
         ⟨(some 48), none, .bin .shr (.tmp 46) (.tmp 47)⟩,
         ⟨(some 49), none, .iadr 1 (.tmp 41) (.tmp 42)⟩,
         ⟨none, none, .store 1 (.tmp 49) (.tmp 48)⟩]) (
       .seq (
        .region [
          ⟨(some 50), none, .mov (.tmp 8)⟩,
          ⟨(some 51), none, .bin .add (.tmp 50) (.cst (.p (.int .i64 1)))⟩,
          ⟨(some 52), none, .mov (.tmp 6)⟩,
          ⟨(some 53), none, .len (.tmp 52)⟩,
          ⟨(some 54), none, .bin .lss (.tmp 51) (.tmp 53)⟩]) (
        .cond (.tmp 54) (
         .regionW [
           (⟨(some 55), none, .mov (.tmp 6)⟩, false),
           (⟨(some 56), none, .mov (.tmp 8)⟩, false),
           (⟨(some 57), none, .mov (.tmp 6)⟩, false),
           (⟨(some 58), none, .mov (.tmp 8)⟩, false),
           (⟨(some 59), none, .iadr 1 (.tmp 57) (.tmp 58)⟩, false),
           (⟨(some 60), none, .load 1 false (.tmp 59)⟩, false),
           (⟨(some 61), none, .mov (.tmp 6)⟩, false),
           (⟨(some 62), none, .mov (.tmp 8)⟩, false),
           (⟨(some 63), none, .bin .add (.tmp 62) (.cst (.p (.int .i64 1)))⟩, false),
           (⟨(some 64), none, .iadr 1 (.tmp 61) (.tmp 63)⟩, false),
           (⟨(some 65), none, .load 1 false (.tmp 64)⟩, false),
           (⟨(some 66), none, .mov (.tmp 7)⟩, false),
           (⟨(some 67), none, .bin .sub (.cst (.p (.int .u64 64))) (.tmp 66)⟩, false),
           (⟨(some 68), none, .bin .shl (.tmp 65) (.tmp 67)⟩, false),
           (⟨(some 69), none, .bin .or (.tmp 60) (.tmp 68)⟩, false),
           (⟨(some 70), none, .iadr 1 (.tmp 55) (.tmp 56)⟩, false),
           (⟨none, none, .store 1 (.tmp 70) (.tmp 69)⟩, false)]) (
         .skip))))) (
     .region [
       ⟨(some 39), none, .mov (.tmp 8)⟩,
       ⟨(some 40), none, .bin .add (.tmp 39) (.cst (.p (.int .i64 1)))⟩,
       ⟨(some 8), none, .mov (.tmp 40)⟩]))))
def lf96_B1 : LCode := .block 2 (
  .loop (
   .seq (
    .seq (
     .region [
       ⟨(some 79), none, .mov (.tmp 12)⟩,
       ⟨(some 80), none, .mov (.tmp 0)⟩,
       ⟨(some 81), none, .len (.tmp 80)⟩,
       ⟨(some 82), none, .bin .lss (.tmp 79) (.tmp 81)⟩]) (
     .cond (.tmp 82) (
      .skip) (
      .exit 2))) (
    .seq (
     .block 3 (
      .seq (
       .region [
         ⟨(some 85), none, .mov (.tmp 9)⟩,
         ⟨(some 86), none, .mov (.tmp 0)⟩,
         ⟨(some 87), none, .mov (.tmp 12)⟩,
         ⟨(some 88), none, .iadr 1 (.tmp 86) (.tmp 87)⟩,
         ⟨(some 89), none, .load 1 false (.tmp 88)⟩,
         ⟨(some 90), none, .mov (.tmp 10)⟩,
         ⟨(some 91), none, .bin .shl (.tmp 89) (.tmp 90)⟩,
         ⟨(some 92), none, .mov (.tmp 11)⟩,
         ⟨(some 93), none, .bin .or (.tmp 91) (.tmp 92)⟩,
         ⟨(some 94), none, .buildSl 1 40 (.p (.int .u64 0)) 1 [(0, (.tmp 93))]⟩,
         ⟨(some 95), none, .app 1 8 40 (.tmp 85) (.tmp 94)⟩,
         ⟨(some 9), none, .mov (.tmp 95)⟩]) (
       .seq (
        .region [
          ⟨(some 11), none, .mov (.cst (.p (.int .u64 0)))⟩]) (
        .seq (
         .region [
           ⟨(some 96), none, .mov (.tmp 10)⟩,
           ⟨(some 97), none, .bin .gtr (.tmp 96) (.cst (.p (.int .u64 0)))⟩]) (
         .cond (.tmp 97) (
          .region [
            ⟨(some 98), none, .mov (.tmp 0)⟩,
            ⟨(some 99), none, .mov (.tmp 12)⟩,
            ⟨(some 100), none, .iadr 1 (.tmp 98) (.tmp 99)⟩,
            ⟨(some 101), none, .load 1 false (.tmp 100)⟩,
            ⟨(some 102), none, .mov (.tmp 10)⟩,
            ⟨(some 103), none, .bin .sub (.cst (.p (.int .u64 64))) (.tmp 102)⟩,
            ⟨(some 104), none, .bin .shr (.tmp 101) (.tmp 103)⟩,
            ⟨(some 11), none, .mov (.tmp 104)⟩]) (
          .skip)))))) (
     .region [
       ⟨(some 83), none, .mov (.tmp 12)⟩,
       ⟨(some 84), none, .bin .add (.tmp 83) (.cst (.p (.int .i64 1)))⟩,
       ⟨(some 12), none, .mov (.tmp 84)⟩]))))
def lf96 : LFunc := ⟨110, [(.slot 4)], (
  .seq (
   .region [
     ⟨(some 4), none, .mov (.cst (.tight []))⟩]) (
   .seq (
    .seq (
     .region [
       ⟨(some 13), none, .mov (.tmp 1)⟩,
       ⟨(some 14), none, .bin .lss (.tmp 13) (.cst (.p (.int .i64 0)))⟩]) (
     .cond (.tmp 14) (
      .seq (
       .region [
         ⟨(some 15), none, .mov (.tmp 1)⟩,
         ⟨(some 16), none, .un .neg (.tmp 15)⟩,
         ⟨(some 17), none, .bin .quo (.tmp 16) (.cst (.p (.int .i64 64)))⟩,
         ⟨(some 5), none, .mov (.tmp 17)⟩]) (
       .seq (
        .seq (
         .region [
           ⟨(some 18), none, .mov (.tmp 5)⟩,
           ⟨(some 19), none, .mov (.tmp 0)⟩,
           ⟨(some 20), none, .len (.tmp 19)⟩,
           ⟨(some 21), none, .bin .geq (.tmp 18) (.tmp 20)⟩]) (
         .cond (.tmp 21) (
          .seq (
           .region [
             ⟨(some 4), none, .mov (.cst (.tight []))⟩]) (
           .ret)) (
          .skip))) (
        .seq (
         .region [
           ⟨(some 22), none, .buildSl 1 40 (.p (.int .u64 0)) 0 []⟩,
           ⟨(some 23), none, .mov (.tmp 0)⟩,
           ⟨(some 24), none, .mov (.tmp 5)⟩,
           ⟨(some 25), none, .slSl 1 (.tmp 23) (some (.tmp 24)) none none⟩,
           ⟨(some 26), none, .app 1 8 40 (.tmp 22) (.tmp 25)⟩,
           ⟨(some 6), none, .mov (.tmp 26)⟩]) (
         .seq (
          .region [
            ⟨(some 27), none, .mov (.tmp 1)⟩,
            ⟨(some 28), none, .un .neg (.tmp 27)⟩,
            ⟨(some 29), none, .bin .rem (.tmp 28) (.cst (.p (.int .i64 64)))⟩,
            ⟨(some 30), none, .conv (.toInt .u64) (.tmp 29)⟩,
            ⟨(some 7), none, .mov (.tmp 30)⟩]) (
          .seq (
           .seq (
            .region [
              ⟨(some 8), none, .mov (.cst (.p (.int .i64 0)))⟩]) (
            lf96_B0)) (
           .seq (
            .region [
              ⟨(some 71), none, .mov (.tmp 6)⟩,
              ⟨(some 72), none, .call 78 [(.tmp 71)]⟩,
              ⟨(some 4), none, .mov (.tmp 72)⟩]) (
            .ret))))))) (
      .skip))) (
    .seq (
     .region [
       ⟨(some 73), none, .mov (.tmp 1)⟩,
       ⟨(some 74), none, .bin .quo (.tmp 73) (.cst (.p (.int .i64 64)))⟩,
       ⟨(some 75), none, .mksl 1 8 40 (.p (.int .u64 0)) (.tmp 74) (.tmp 74)⟩,
       ⟨(some 9), none, .mov (.tmp 75)⟩]) (
     .seq (
      .region [
        ⟨(some 76), none, .mov (.tmp 1)⟩,
        ⟨(some 77), none, .bin .rem (.tmp 76) (.cst (.p (.int .i64 64)))⟩,
        ⟨(some 78), none, .conv (.toInt .u64) (.tmp 77)⟩,
        ⟨(some 10), none, .mov (.tmp 78)⟩]) (
      .seq (
       .region [
         ⟨(some 11), none, .mov (.cst (.p (.int .u64 0)))⟩]) (
       .seq (
        .seq (
         .region [
           ⟨(some 12), none, .mov (.cst (.p (.int .i64 0)))⟩]) (
         lf96_B1)) (
        .seq (
         .region [
           ⟨(some 105), none, .mov (.tmp 9)⟩,
           ⟨(some 106), none, .mov (.tmp 11)⟩,
           ⟨(some 107), none, .buildSl 1 40 (.p (.int .u64 0)) 1 [(0, (.tmp 106))]⟩,
           ⟨(some 108), none, .app 1 8 40 (.tmp 105) (.tmp 107)⟩,
           ⟨(some 109), none, .call 78 [(.tmp 108)]⟩,
           ⟨(some 4), none, .mov (.tmp 109)⟩]) (
         .ret))))))))⟩
theorem low96 : lowFunc Tryz.prog gl0 96 = some lf96 := by kernel_rfl
end Go.Proofs.YtjjpfffclcofnaaGreatDoor
