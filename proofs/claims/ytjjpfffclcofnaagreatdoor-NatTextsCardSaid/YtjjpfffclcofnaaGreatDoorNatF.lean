/-
  The lowered code of the functions of texts, each equal to what the program's form lowers to. No conditions.
-/
import Derived.Test.YtjjpfffclcofnaaGreatDoorAbsTwo
import Derived.Test.YtjjpfffclcofnaaGreatDoorProg
import Derived.Test.YtjjpfffclcofnaaGreatDoorNatA
import Derived.KernelRfl
set_option linter.unusedSimpArgs false
set_option linter.unusedVariables false
set_option linter.constructorNameAsVariable false

/-
  The lowered code of the functions, as the program's form has it.
-/
namespace Go.Proofs.YtjjpfffclcofnaaGreatDoor
open Go Go.Abs
def lf161 : LFunc := ⟨6, [(.slot 2)], (
  .seq (
   .region [
     ⟨(some 2), none, .mov (.cst (.p (.int .i64 0)))⟩]) (
   .seq (
    .region [
      ⟨(some 3), none, .mov (.tmp 0)⟩,
      ⟨(some 4), none, .bin .mul (.tmp 3) (.cst (.p (.int .i64 78913)))⟩,
      ⟨(some 5), none, .bin .shr (.tmp 4) (.cst (.p (.int .u64 18)))⟩,
      ⟨(some 2), none, .mov (.tmp 5)⟩]) (
    .ret)))⟩
theorem low161 : lowFunc Tryz.prog gl0 161 = some lf161 := by kernel_rfl
def lf162 : LFunc := ⟨4, [(.slot 2)], (
  .seq (
   .region [
     ⟨(some 2), none, .mov (.cst (.p (.int .i64 0)))⟩]) (
   .seq (
    .seq (
     .region [
       ⟨(some 3), none, .mov (.tmp 0)⟩]) (
     .cond (.tmp 3) (
      .seq (
       .region [
         ⟨(some 2), none, .mov (.cst (.p (.int .i64 1)))⟩]) (
       .ret)) (
      .skip))) (
    .seq (
     .region [
       ⟨(some 2), none, .mov (.cst (.p (.int .i64 0)))⟩]) (
     .ret))))⟩
theorem low162 : lowFunc Tryz.prog gl0 162 = some lf162 := by kernel_rfl
def lf18_B0 : LCode := .block 0 (
  .loop (
   .seq (
    .seq (
     .region [
       ⟨(some 11), none, .mov (.tmp 0)⟩,
       ⟨(some 12), none, .len (.tmp 11)⟩,
       ⟨(some 13), none, .bin .gtr (.tmp 12) (.cst (.p (.int .i64 0)))⟩]) (
     .cond (.tmp 13) (
      .skip) (
      .exit 0))) (
    .block 1 (
     .seq (
      .region [
        ⟨(some 4), none, .mov (.cst (.p (.int .u64 0)))⟩]) (
      .seq (
       .region [
         ⟨(some 15), none, .mov (.tmp 0)⟩,
         ⟨(some 16), none, .call 70 [(.tmp 15), (.cst (.p (.int .u64 10000000000000000000)))]⟩,
         ⟨(some 14), none, .mov (.tmp 16)⟩,
         ⟨(some 17), none, .ext (.tmp 14) 0⟩,
         ⟨(some 18), none, .ext (.tmp 14) 1⟩,
         ⟨(some 0), none, .mov (.tmp 17)⟩,
         ⟨(some 4), none, .mov (.tmp 18)⟩]) (
       .regionW [
         (⟨(some 19), none, .load 1 false (.tmp 3)⟩, true),
         (⟨(some 20), none, .mov (.tmp 4)⟩, false),
         (⟨(some 21), none, .call 71 [(.tmp 20), (.cst (.p (.int .i64 10)))]⟩, true),
         (⟨(some 22), none, .buildSl 1 9 (.p (.str [])) 1 [(0, (.tmp 21))]⟩, true),
         (⟨(some 23), none, .app 1 16 9 (.tmp 19) (.tmp 22)⟩, false),
         (⟨none, none, .store 1 (.tmp 3) (.tmp 23)⟩, false)]))))))
def lf18 : LFunc := ⟨44, [(.slot 2)], (
  .seq (
   .region [
     ⟨(some 2), none, .mov (.cst (.p (.str [])))⟩]) (
   .seq (
    .seq (
     .region [
       ⟨(some 8), none, .mov (.tmp 0)⟩,
       ⟨(some 9), none, .call 21 [(.tmp 8)]⟩,
       ⟨(some 10), none, .un .not (.tmp 9)⟩]) (
     .cond (.tmp 10) (
      .seq (
       .region [
         ⟨(some 2), none, .mov (.cst (.p (.str [])))⟩]) (
       .ret)) (
      .skip))) (
    .seq (
     .region [
       ⟨(some 3), none, .newv 1 75 (.cst (.tight []))⟩]) (
     .seq (
      lf18_B0) (
      .seq (
       .seq (
        .region [
          ⟨(some 24), none, .load 1 false (.tmp 3)⟩,
          ⟨(some 25), none, .len (.tmp 24)⟩,
          ⟨(some 26), none, .bin .eql (.tmp 25) (.cst (.p (.int .i64 0)))⟩]) (
        .cond (.tmp 26) (
         .seq (
          .region [
            ⟨(some 2), none, .mov (.cst (.p (.str [48])))⟩]) (
          .ret)) (
         .skip))) (
       .seq (
        .region [
          ⟨(some 5), none, .newv 2 82 (.cst (.agg [(.p .nilp), (.tight [])]))⟩]) (
        .seq (
         .seq (
          .region [
            ⟨(some 27), none, .load 1 false (.tmp 3)⟩,
            ⟨(some 28), none, .call 72 [(.tmp 27)]⟩]) (
          .block 2 (
           .bad))) (
         .seq (
          .region [
            ⟨(some 43), none, .call 75 [(.tmp 5)]⟩,
            ⟨(some 2), none, .mov (.tmp 43)⟩]) (
          .ret)))))))))⟩
theorem low18 : lowFunc Tryz.prog gl0 18 = some lf18 := by kernel_rfl
def lf71 : LFunc := ⟨8, [(.slot 4)], (
  .seq (
   .region [
     ⟨(some 4), none, .mov (.cst (.p (.str [])))⟩]) (
   .seq (
    .region [
      ⟨(some 5), none, .mov (.tmp 0)⟩,
      ⟨(some 6), none, .mov (.tmp 1)⟩,
      ⟨(some 7), none, .call 118 [(.tmp 5), (.tmp 6)]⟩,
      ⟨(some 4), none, .mov (.tmp 7)⟩]) (
    .ret)))⟩
theorem low71 : lowFunc Tryz.prog gl0 71 = some lf71 := by kernel_rfl
def lf72 : LFunc := ⟨4, [(.slot 2)], (
  .seq (
   .region [
     ⟨(some 1), none, .newv 1 75 (.tmp 0)⟩,
     ⟨(some 2), none, .mov (.cst (.p .nilf))⟩]) (
   .seq (
    .region [
      ⟨(some 3), none, .mkf 119 [(.tmp 1)]⟩,
      ⟨(some 2), none, .mov (.tmp 3)⟩]) (
    .ret)))⟩
theorem low72 : lowFunc Tryz.prog gl0 72 = some lf72 := by kernel_rfl
def lf73 : LFunc := ⟨19, [(.slot 4), (.slot 5)], (
  .seq (
   .region [
     ⟨(some 4), none, .mov (.cst (.p (.int .i64 0)))⟩,
     ⟨(some 5), none, .mov (.cst (.p .nili))⟩]) (
   .seq (
    .region [
      ⟨(some 6), none, .mov (.tmp 0)⟩,
      ⟨(some 7), none, .call 120 [(.tmp 6)]⟩]) (
    .seq (
     .region [
       ⟨(some 8), none, .mov (.tmp 0)⟩,
       ⟨(some 9), none, .mov (.tmp 0)⟩,
       ⟨(some 10), none, .nilc (.tmp 9)⟩,
       ⟨(some 11), none, .fadr 1 (.tmp 10)⟩,
       ⟨(some 12), none, .load 1 false (.tmp 11)⟩,
       ⟨(some 13), none, .mov (.tmp 1)⟩,
       ⟨(some 14), none, .appS 1 5 (.tmp 12) (.tmp 13)⟩,
       ⟨(some 15), none, .nilc (.tmp 8)⟩,
       ⟨(some 16), none, .fadr 1 (.tmp 15)⟩,
       ⟨none, none, .store 1 (.tmp 16) (.tmp 14)⟩]) (
     .seq (
      .region [
        ⟨(some 17), none, .mov (.tmp 1)⟩,
        ⟨(some 18), none, .lenS (.tmp 17)⟩,
        ⟨(some 4), none, .mov (.tmp 18)⟩,
        ⟨(some 5), none, .mov (.cst (.p .nili))⟩]) (
      .ret)))))⟩
theorem low73 : lowFunc Tryz.prog gl0 73 = some lf73 := by kernel_rfl
def lf74_B0 : LCode := .block 3 (
  .loop (
   .seq (
    .seq (
     .region [
       ⟨(some 111), none, .call 124 [(.tmp 9)]⟩,
       ⟨(some 112), none, .mov (.tmp 7)⟩,
       ⟨(some 113), none, .bin .lss (.tmp 111) (.tmp 112)⟩]) (
     .cond (.tmp 113) (
      .skip) (
      .exit 3))) (
    .block 4 (
     .seq (
      .region [
        ⟨(some 114), none, .mov (.tmp 7)⟩,
        ⟨(some 115), none, .call 124 [(.tmp 9)]⟩,
        ⟨(some 116), none, .bin .sub (.tmp 114) (.tmp 115)⟩,
        ⟨(some 117), none, .call 124 [(.tmp 9)]⟩,
        ⟨(some 118), none, .mov (.tmp 8)⟩,
        ⟨(some 119), none, .bad⟩,
        ⟨(some 10), none, .mov (.tmp 119)⟩]) (
      .region [
        ⟨(some 120), none, .call 75 [(.tmp 9)]⟩,
        ⟨(some 121), none, .mov (.tmp 10)⟩,
        ⟨(some 122), none, .slStr (.tmp 120) none (some (.tmp 121))⟩,
        ⟨(some 123), none, .call 73 [(.tmp 9), (.tmp 122)]⟩])))))
def lf74 : LFunc := ⟨125, [(.slot 4)], (
  .seq (
   .region [
     ⟨(some 4), none, .mov (.cst (.p (.str [])))⟩]) (
   .seq (
    .seq (
     .region [
       ⟨(some 11), none, .mov (.tmp 1)⟩]) (
     .block 0 (
      .seq (
       .region [
         ⟨(some 13), none, .bin .eql (.tmp 11) (.cst (.p (.int .i64 0)))⟩,
         ⟨(some 12), none, .mov (.tmp 13)⟩]) (
       .cond (.tmp 12) (
        .seq (
         .region [
           ⟨(some 4), none, .mov (.cst (.p (.str [])))⟩]) (
         .ret)) (
        .seq (
         .region [
           ⟨(some 15), none, .bin .eql (.tmp 11) (.cst (.p (.int .i64 1)))⟩,
           ⟨(some 14), none, .mov (.tmp 15)⟩]) (
         .cond (.tmp 14) (
          .seq (
           .region [
             ⟨(some 16), none, .mov (.tmp 0)⟩,
             ⟨(some 4), none, .mov (.tmp 16)⟩]) (
           .ret)) (
          .skip))))))) (
    .seq (
     .seq (
      .region [
        ⟨(some 17), none, .mov (.tmp 1)⟩,
        ⟨(some 18), none, .bin .lss (.tmp 17) (.cst (.p (.int .i64 0)))⟩]) (
      .cond (.tmp 18) (
       .region [
         ⟨(some 19), none, .bad⟩,
         ⟨none, none, .bad⟩]) (
       .skip))) (
     .seq (
      .region [
        ⟨(some 21), none, .mov (.tmp 0)⟩,
        ⟨(some 22), none, .lenS (.tmp 21)⟩,
        ⟨(some 23), none, .conv (.toInt .u64) (.tmp 22)⟩,
        ⟨(some 24), none, .mov (.tmp 1)⟩,
        ⟨(some 25), none, .conv (.toInt .u64) (.tmp 24)⟩,
        ⟨(some 26), none, .call 121 [(.tmp 23), (.tmp 25)]⟩,
        ⟨(some 20), none, .mov (.tmp 26)⟩,
        ⟨(some 27), none, .ext (.tmp 20) 0⟩,
        ⟨(some 28), none, .ext (.tmp 20) 1⟩,
        ⟨(some 5), none, .mov (.tmp 27)⟩,
        ⟨(some 6), none, .mov (.tmp 28)⟩]) (
      .seq (
       .seq (
        .region [
          ⟨(some 29), none, .mov (.tmp 5)⟩,
          ⟨(some 30), none, .bin .gtr (.tmp 29) (.cst (.p (.int .u64 0)))⟩,
          ⟨(some 31), none, .mov (.tmp 30)⟩,
          ⟨(some 32), (some (31, false)), .mov (.tmp 6)⟩,
          ⟨(some 33), (some (31, false)), .bin .gtr (.tmp 32) (.cst (.p (.int .u64 9223372036854775807)))⟩,
          ⟨(some 34), none, .pick (.tmp 31) (.cst (.p (.bool true))) (.tmp 33)⟩]) (
        .cond (.tmp 34) (
         .region [
           ⟨(some 35), none, .bad⟩,
           ⟨none, none, .bad⟩]) (
         .skip))) (
       .seq (
        .region [
          ⟨(some 36), none, .mov (.tmp 6)⟩,
          ⟨(some 37), none, .conv (.toInt .i64) (.tmp 36)⟩,
          ⟨(some 7), none, .mov (.tmp 37)⟩]) (
        .seq (
         .seq (
          .region [
            ⟨(some 38), none, .mov (.tmp 0)⟩,
            ⟨(some 39), none, .lenS (.tmp 38)⟩,
            ⟨(some 40), none, .bin .eql (.tmp 39) (.cst (.p (.int .i64 0)))⟩]) (
          .cond (.tmp 40) (
           .seq (
            .region [
              ⟨(some 4), none, .mov (.cst (.p (.str [])))⟩]) (
            .ret)) (
           .skip))) (
         .seq (
          .seq (
           .region [
             ⟨(some 41), none, .mov (.tmp 0)⟩,
             ⟨(some 42), none, .istr (.tmp 41) (.cst (.p (.int .i64 0)))⟩]) (
           .block 1 (
            .seq (
             .seq (
              .region [
                ⟨(some 44), none, .bin .eql (.tmp 42) (.cst (.p (.int .u8 32)))⟩,
                ⟨(some 43), none, .mov (.tmp 44)⟩]) (
              .cond (.tmp 43) (
               .skip) (
               .seq (
                .region [
                  ⟨(some 45), none, .bin .eql (.tmp 42) (.cst (.p (.int .u8 45)))⟩,
                  ⟨(some 43), none, .mov (.tmp 45)⟩]) (
                .cond (.tmp 43) (
                 .skip) (
                 .seq (
                  .region [
                    ⟨(some 46), none, .bin .eql (.tmp 42) (.cst (.p (.int .u8 48)))⟩,
                    ⟨(some 43), none, .mov (.tmp 46)⟩]) (
                  .cond (.tmp 43) (
                   .skip) (
                   .seq (
                    .region [
                      ⟨(some 47), none, .bin .eql (.tmp 42) (.cst (.p (.int .u8 61)))⟩,
                      ⟨(some 43), none, .mov (.tmp 47)⟩]) (
                    .cond (.tmp 43) (
                     .skip) (
                     .region [
                       ⟨(some 48), none, .bin .eql (.tmp 42) (.cst (.p (.int .u8 9)))⟩,
                       ⟨(some 43), none, .mov (.tmp 48)⟩]))))))))) (
             .cond (.tmp 43) (
              .block 2 (
               .seq (
                .region [
                  ⟨(some 50), none, .mov (.tmp 7)⟩,
                  ⟨(some 51), none, .bin .leq (.tmp 50) (.cst (.p (.int .i64 128)))⟩,
                  ⟨(some 52), none, .mov (.tmp 51)⟩,
                  ⟨(some 53), (some (52, true)), .mov (.tmp 0)⟩,
                  ⟨(some 54), (some (52, true)), .call 122 [(.cst (.p (.str [32, 32, 32, 32, 32, 32, 32, 32, 32, 32, 32, 32, 32, 32, 32, 32, 32, 32, 32, 32, 32, 32, 32, 32, 32, 32, 32, 32, 32, 32, 32, 32, 32, 32, 32, 32, 32, 32, 32, 32, 32, 32, 32, 32, 32, 32, 32, 32, 32, 32, 32, 32, 32, 32, 32, 32, 32, 32, 32, 32, 32, 32, 32, 32, 32, 32, 32, 32, 32, 32, 32, 32, 32, 32, 32, 32, 32, 32, 32, 32, 32, 32, 32, 32, 32, 32, 32, 32, 32, 32, 32, 32, 32, 32, 32, 32, 32, 32, 32, 32, 32, 32, 32, 32, 32, 32, 32, 32, 32, 32, 32, 32, 32, 32, 32, 32, 32, 32, 32, 32, 32, 32, 32, 32, 32, 32, 32, 32]))), (.tmp 53)]⟩,
                  ⟨(some 55), none, .pick (.tmp 52) (.tmp 54) (.cst (.p (.bool false)))⟩,
                  ⟨(some 49), none, .mov (.tmp 55)⟩]) (
                .cond (.tmp 49) (
                 .seq (
                  .region [
                    ⟨(some 56), none, .mov (.tmp 7)⟩,
                    ⟨(some 57), none, .slStr (.cst (.p (.str [32, 32, 32, 32, 32, 32, 32, 32, 32, 32, 32, 32, 32, 32, 32, 32, 32, 32, 32, 32, 32, 32, 32, 32, 32, 32, 32, 32, 32, 32, 32, 32, 32, 32, 32, 32, 32, 32, 32, 32, 32, 32, 32, 32, 32, 32, 32, 32, 32, 32, 32, 32, 32, 32, 32, 32, 32, 32, 32, 32, 32, 32, 32, 32, 32, 32, 32, 32, 32, 32, 32, 32, 32, 32, 32, 32, 32, 32, 32, 32, 32, 32, 32, 32, 32, 32, 32, 32, 32, 32, 32, 32, 32, 32, 32, 32, 32, 32, 32, 32, 32, 32, 32, 32, 32, 32, 32, 32, 32, 32, 32, 32, 32, 32, 32, 32, 32, 32, 32, 32, 32, 32, 32, 32, 32, 32, 32, 32]))) none (some (.tmp 56))⟩,
                    ⟨(some 4), none, .mov (.tmp 57)⟩]) (
                  .ret)) (
                 .seq (
                  .region [
                    ⟨(some 59), none, .mov (.tmp 7)⟩,
                    ⟨(some 60), none, .bin .leq (.tmp 59) (.cst (.p (.int .i64 128)))⟩,
                    ⟨(some 61), none, .mov (.tmp 60)⟩,
                    ⟨(some 62), (some (61, true)), .mov (.tmp 0)⟩,
                    ⟨(some 63), (some (61, true)), .call 122 [(.cst (.p (.str [45, 45, 45, 45, 45, 45, 45, 45, 45, 45, 45, 45, 45, 45, 45, 45, 45, 45, 45, 45, 45, 45, 45, 45, 45, 45, 45, 45, 45, 45, 45, 45, 45, 45, 45, 45, 45, 45, 45, 45, 45, 45, 45, 45, 45, 45, 45, 45, 45, 45, 45, 45, 45, 45, 45, 45, 45, 45, 45, 45, 45, 45, 45, 45, 45, 45, 45, 45, 45, 45, 45, 45, 45, 45, 45, 45, 45, 45, 45, 45, 45, 45, 45, 45, 45, 45, 45, 45, 45, 45, 45, 45, 45, 45, 45, 45, 45, 45, 45, 45, 45, 45, 45, 45, 45, 45, 45, 45, 45, 45, 45, 45, 45, 45, 45, 45, 45, 45, 45, 45, 45, 45, 45, 45, 45, 45, 45, 45]))), (.tmp 62)]⟩,
                    ⟨(some 64), none, .pick (.tmp 61) (.tmp 63) (.cst (.p (.bool false)))⟩,
                    ⟨(some 58), none, .mov (.tmp 64)⟩]) (
                  .cond (.tmp 58) (
                   .seq (
                    .region [
                      ⟨(some 65), none, .mov (.tmp 7)⟩,
                      ⟨(some 66), none, .slStr (.cst (.p (.str [45, 45, 45, 45, 45, 45, 45, 45, 45, 45, 45, 45, 45, 45, 45, 45, 45, 45, 45, 45, 45, 45, 45, 45, 45, 45, 45, 45, 45, 45, 45, 45, 45, 45, 45, 45, 45, 45, 45, 45, 45, 45, 45, 45, 45, 45, 45, 45, 45, 45, 45, 45, 45, 45, 45, 45, 45, 45, 45, 45, 45, 45, 45, 45, 45, 45, 45, 45, 45, 45, 45, 45, 45, 45, 45, 45, 45, 45, 45, 45, 45, 45, 45, 45, 45, 45, 45, 45, 45, 45, 45, 45, 45, 45, 45, 45, 45, 45, 45, 45, 45, 45, 45, 45, 45, 45, 45, 45, 45, 45, 45, 45, 45, 45, 45, 45, 45, 45, 45, 45, 45, 45, 45, 45, 45, 45, 45, 45]))) none (some (.tmp 65))⟩,
                      ⟨(some 4), none, .mov (.tmp 66)⟩]) (
                    .ret)) (
                   .seq (
                    .region [
                      ⟨(some 68), none, .mov (.tmp 7)⟩,
                      ⟨(some 69), none, .bin .leq (.tmp 68) (.cst (.p (.int .i64 64)))⟩,
                      ⟨(some 70), none, .mov (.tmp 69)⟩,
                      ⟨(some 71), (some (70, true)), .mov (.tmp 0)⟩,
                      ⟨(some 72), (some (70, true)), .call 122 [(.cst (.p (.str [48, 48, 48, 48, 48, 48, 48, 48, 48, 48, 48, 48, 48, 48, 48, 48, 48, 48, 48, 48, 48, 48, 48, 48, 48, 48, 48, 48, 48, 48, 48, 48, 48, 48, 48, 48, 48, 48, 48, 48, 48, 48, 48, 48, 48, 48, 48, 48, 48, 48, 48, 48, 48, 48, 48, 48, 48, 48, 48, 48, 48, 48, 48, 48]))), (.tmp 71)]⟩,
                      ⟨(some 73), none, .pick (.tmp 70) (.tmp 72) (.cst (.p (.bool false)))⟩,
                      ⟨(some 67), none, .mov (.tmp 73)⟩]) (
                    .cond (.tmp 67) (
                     .seq (
                      .region [
                        ⟨(some 74), none, .mov (.tmp 7)⟩,
                        ⟨(some 75), none, .slStr (.cst (.p (.str [48, 48, 48, 48, 48, 48, 48, 48, 48, 48, 48, 48, 48, 48, 48, 48, 48, 48, 48, 48, 48, 48, 48, 48, 48, 48, 48, 48, 48, 48, 48, 48, 48, 48, 48, 48, 48, 48, 48, 48, 48, 48, 48, 48, 48, 48, 48, 48, 48, 48, 48, 48, 48, 48, 48, 48, 48, 48, 48, 48, 48, 48, 48, 48]))) none (some (.tmp 74))⟩,
                        ⟨(some 4), none, .mov (.tmp 75)⟩]) (
                      .ret)) (
                     .seq (
                      .region [
                        ⟨(some 77), none, .mov (.tmp 7)⟩,
                        ⟨(some 78), none, .bin .leq (.tmp 77) (.cst (.p (.int .i64 128)))⟩,
                        ⟨(some 79), none, .mov (.tmp 78)⟩,
                        ⟨(some 80), (some (79, true)), .mov (.tmp 0)⟩,
                        ⟨(some 81), (some (79, true)), .call 122 [(.cst (.p (.str [61, 61, 61, 61, 61, 61, 61, 61, 61, 61, 61, 61, 61, 61, 61, 61, 61, 61, 61, 61, 61, 61, 61, 61, 61, 61, 61, 61, 61, 61, 61, 61, 61, 61, 61, 61, 61, 61, 61, 61, 61, 61, 61, 61, 61, 61, 61, 61, 61, 61, 61, 61, 61, 61, 61, 61, 61, 61, 61, 61, 61, 61, 61, 61, 61, 61, 61, 61, 61, 61, 61, 61, 61, 61, 61, 61, 61, 61, 61, 61, 61, 61, 61, 61, 61, 61, 61, 61, 61, 61, 61, 61, 61, 61, 61, 61, 61, 61, 61, 61, 61, 61, 61, 61, 61, 61, 61, 61, 61, 61, 61, 61, 61, 61, 61, 61, 61, 61, 61, 61, 61, 61, 61, 61, 61, 61, 61, 61]))), (.tmp 80)]⟩,
                        ⟨(some 82), none, .pick (.tmp 79) (.tmp 81) (.cst (.p (.bool false)))⟩,
                        ⟨(some 76), none, .mov (.tmp 82)⟩]) (
                      .cond (.tmp 76) (
                       .seq (
                        .region [
                          ⟨(some 83), none, .mov (.tmp 7)⟩,
                          ⟨(some 84), none, .slStr (.cst (.p (.str [61, 61, 61, 61, 61, 61, 61, 61, 61, 61, 61, 61, 61, 61, 61, 61, 61, 61, 61, 61, 61, 61, 61, 61, 61, 61, 61, 61, 61, 61, 61, 61, 61, 61, 61, 61, 61, 61, 61, 61, 61, 61, 61, 61, 61, 61, 61, 61, 61, 61, 61, 61, 61, 61, 61, 61, 61, 61, 61, 61, 61, 61, 61, 61, 61, 61, 61, 61, 61, 61, 61, 61, 61, 61, 61, 61, 61, 61, 61, 61, 61, 61, 61, 61, 61, 61, 61, 61, 61, 61, 61, 61, 61, 61, 61, 61, 61, 61, 61, 61, 61, 61, 61, 61, 61, 61, 61, 61, 61, 61, 61, 61, 61, 61, 61, 61, 61, 61, 61, 61, 61, 61, 61, 61, 61, 61, 61, 61]))) none (some (.tmp 83))⟩,
                          ⟨(some 4), none, .mov (.tmp 84)⟩]) (
                        .ret)) (
                       .seq (
                        .region [
                          ⟨(some 86), none, .mov (.tmp 7)⟩,
                          ⟨(some 87), none, .bin .leq (.tmp 86) (.cst (.p (.int .i64 64)))⟩,
                          ⟨(some 88), none, .mov (.tmp 87)⟩,
                          ⟨(some 89), (some (88, true)), .mov (.tmp 0)⟩,
                          ⟨(some 90), (some (88, true)), .call 122 [(.cst (.p (.str [9, 9, 9, 9, 9, 9, 9, 9, 9, 9, 9, 9, 9, 9, 9, 9, 9, 9, 9, 9, 9, 9, 9, 9, 9, 9, 9, 9, 9, 9, 9, 9, 9, 9, 9, 9, 9, 9, 9, 9, 9, 9, 9, 9, 9, 9, 9, 9, 9, 9, 9, 9, 9, 9, 9, 9, 9, 9, 9, 9, 9, 9, 9, 9]))), (.tmp 89)]⟩,
                          ⟨(some 91), none, .pick (.tmp 88) (.tmp 90) (.cst (.p (.bool false)))⟩,
                          ⟨(some 85), none, .mov (.tmp 91)⟩]) (
                        .cond (.tmp 85) (
                         .seq (
                          .region [
                            ⟨(some 92), none, .mov (.tmp 7)⟩,
                            ⟨(some 93), none, .slStr (.cst (.p (.str [9, 9, 9, 9, 9, 9, 9, 9, 9, 9, 9, 9, 9, 9, 9, 9, 9, 9, 9, 9, 9, 9, 9, 9, 9, 9, 9, 9, 9, 9, 9, 9, 9, 9, 9, 9, 9, 9, 9, 9, 9, 9, 9, 9, 9, 9, 9, 9, 9, 9, 9, 9, 9, 9, 9, 9, 9, 9, 9, 9, 9, 9, 9, 9]))) none (some (.tmp 92))⟩,
                            ⟨(some 4), none, .mov (.tmp 93)⟩]) (
                          .ret)) (
                         .skip)))))))))))) (
              .skip))))) (
          .seq (
           .region [
             ⟨(some 94), none, .mov (.tmp 7)⟩,
             ⟨(some 8), none, .mov (.tmp 94)⟩]) (
           .seq (
            .seq (
             .region [
               ⟨(some 95), none, .mov (.tmp 7)⟩,
               ⟨(some 96), none, .bin .gtr (.tmp 95) (.cst (.p (.int .i64 8192)))⟩]) (
             .cond (.tmp 96) (
              .seq (
               .region [
                 ⟨(some 97), none, .mov (.tmp 0)⟩,
                 ⟨(some 98), none, .lenS (.tmp 97)⟩,
                 ⟨(some 99), none, .bin .quo (.cst (.p (.int .i64 8192))) (.tmp 98)⟩,
                 ⟨(some 100), none, .mov (.tmp 0)⟩,
                 ⟨(some 101), none, .lenS (.tmp 100)⟩,
                 ⟨(some 102), none, .bin .mul (.tmp 99) (.tmp 101)⟩,
                 ⟨(some 8), none, .mov (.tmp 102)⟩]) (
               .seq (
                .region [
                  ⟨(some 103), none, .mov (.tmp 8)⟩,
                  ⟨(some 104), none, .bin .eql (.tmp 103) (.cst (.p (.int .i64 0)))⟩]) (
                .cond (.tmp 104) (
                 .region [
                   ⟨(some 105), none, .mov (.tmp 0)⟩,
                   ⟨(some 106), none, .lenS (.tmp 105)⟩,
                   ⟨(some 8), none, .mov (.tmp 106)⟩]) (
                 .skip)))) (
              .skip))) (
            .seq (
             .region [
               ⟨(some 9), none, .newv 2 82 (.cst (.agg [(.p .nilp), (.tight [])]))⟩]) (
             .seq (
              .region [
                ⟨(some 107), none, .mov (.tmp 7)⟩,
                ⟨(some 108), none, .call 123 [(.tmp 9), (.tmp 107)]⟩]) (
              .seq (
               .region [
                 ⟨(some 109), none, .mov (.tmp 0)⟩,
                 ⟨(some 110), none, .call 73 [(.tmp 9), (.tmp 109)]⟩]) (
               .seq (
                lf74_B0) (
                .seq (
                 .region [
                   ⟨(some 124), none, .call 75 [(.tmp 9)]⟩,
                   ⟨(some 4), none, .mov (.tmp 124)⟩]) (
                 .ret))))))))))))))))⟩
theorem low74 : lowFunc Tryz.prog gl0 74 = some lf74 := by kernel_rfl
def lf122 : LFunc := ⟨8, [(.slot 4)], (
  .seq (
   .region [
     ⟨(some 4), none, .mov (.cst (.p (.bool false)))⟩]) (
   .seq (
    .region [
      ⟨(some 5), none, .mov (.tmp 0)⟩,
      ⟨(some 6), none, .mov (.tmp 1)⟩,
      ⟨(some 7), none, .call 148 [(.tmp 5), (.tmp 6)]⟩,
      ⟨(some 4), none, .mov (.tmp 7)⟩]) (
    .ret)))⟩
theorem low122 : lowFunc Tryz.prog gl0 122 = some lf122 := by kernel_rfl
def lf148 : LFunc := ⟨18, [(.slot 4)], (
  .seq (
   .region [
     ⟨(some 4), none, .mov (.cst (.p (.bool false)))⟩]) (
   .seq (
    .region [
      ⟨(some 5), none, .mov (.tmp 0)⟩,
      ⟨(some 6), none, .lenS (.tmp 5)⟩,
      ⟨(some 7), none, .mov (.tmp 1)⟩,
      ⟨(some 8), none, .lenS (.tmp 7)⟩,
      ⟨(some 9), none, .bin .geq (.tmp 6) (.tmp 8)⟩,
      ⟨(some 10), none, .mov (.tmp 9)⟩,
      ⟨(some 11), (some (10, true)), .mov (.tmp 0)⟩,
      ⟨(some 12), (some (10, true)), .mov (.tmp 1)⟩,
      ⟨(some 13), (some (10, true)), .lenS (.tmp 12)⟩,
      ⟨(some 14), (some (10, true)), .slStr (.tmp 11) none (some (.tmp 13))⟩,
      ⟨(some 15), (some (10, true)), .mov (.tmp 1)⟩,
      ⟨(some 16), (some (10, true)), .bin .eql (.tmp 14) (.tmp 15)⟩,
      ⟨(some 17), none, .pick (.tmp 10) (.tmp 16) (.cst (.p (.bool false)))⟩,
      ⟨(some 4), none, .mov (.tmp 17)⟩]) (
    .ret)))⟩
theorem low148 : lowFunc Tryz.prog gl0 148 = some lf148 := by kernel_rfl
def lf121 : LFunc := ⟨30, [(.slot 4), (.slot 5)], (
  .seq (
   .region [
     ⟨(some 4), none, .mov (.cst (.p (.int .u64 0)))⟩,
     ⟨(some 5), none, .mov (.cst (.p (.int .u64 0)))⟩]) (
   .seq (
    .cond (.cst (.p (.bool false))) (
     .seq (
      .region [
        ⟨(some 11), none, .mov (.tmp 0)⟩,
        ⟨(some 12), none, .conv (.toInt .u32) (.tmp 11)⟩,
        ⟨(some 13), none, .mov (.tmp 1)⟩,
        ⟨(some 14), none, .conv (.toInt .u32) (.tmp 13)⟩,
        ⟨(some 15), none, .call 147 [(.tmp 12), (.tmp 14)]⟩,
        ⟨(some 10), none, .mov (.tmp 15)⟩,
        ⟨(some 16), none, .ext (.tmp 10) 0⟩,
        ⟨(some 17), none, .ext (.tmp 10) 1⟩,
        ⟨(some 6), none, .mov (.tmp 16)⟩,
        ⟨(some 7), none, .mov (.tmp 17)⟩]) (
      .seq (
       .region [
         ⟨(some 18), none, .mov (.tmp 6)⟩,
         ⟨(some 19), none, .conv (.toInt .u64) (.tmp 18)⟩,
         ⟨(some 20), none, .mov (.tmp 7)⟩,
         ⟨(some 21), none, .conv (.toInt .u64) (.tmp 20)⟩,
         ⟨(some 4), none, .mov (.tmp 19)⟩,
         ⟨(some 5), none, .mov (.tmp 21)⟩]) (
       .ret))) (
     .skip)) (
    .seq (
     .region [
       ⟨(some 23), none, .mov (.tmp 0)⟩,
       ⟨(some 24), none, .mov (.tmp 1)⟩,
       ⟨(some 25), none, .call 116 [(.tmp 23), (.tmp 24)]⟩,
       ⟨(some 22), none, .mov (.tmp 25)⟩,
       ⟨(some 26), none, .ext (.tmp 22) 0⟩,
       ⟨(some 27), none, .ext (.tmp 22) 1⟩,
       ⟨(some 8), none, .mov (.tmp 26)⟩,
       ⟨(some 9), none, .mov (.tmp 27)⟩]) (
     .seq (
      .region [
        ⟨(some 28), none, .mov (.tmp 8)⟩,
        ⟨(some 29), none, .mov (.tmp 9)⟩,
        ⟨(some 4), none, .mov (.tmp 28)⟩,
        ⟨(some 5), none, .mov (.tmp 29)⟩]) (
      .ret)))))⟩
theorem low121 : lowFunc Tryz.prog gl0 121 = some lf121 := by kernel_rfl
def lf66 : LFunc := ⟨37, [(.slot 4)], (
  .seq (
   .region [
     ⟨(some 4), none, .mov (.cst (.p (.str [])))⟩]) (
   .seq (
    .seq (
     .region [
       ⟨(some 7), none, .mov (.tmp 0)⟩,
       ⟨(some 8), none, .bin .eql (.tmp 7) (.cst (.p (.str [])))⟩,
       ⟨(some 9), none, .mov (.tmp 8)⟩,
       ⟨(some 10), (some (9, false)), .mov (.tmp 1)⟩,
       ⟨(some 11), (some (9, false)), .bin .eql (.tmp 10) (.cst (.p (.str [])))⟩,
       ⟨(some 12), none, .pick (.tmp 9) (.cst (.p (.bool true))) (.tmp 11)⟩]) (
     .cond (.tmp 12) (
      .seq (
       .region [
         ⟨(some 13), none, .mov (.tmp 0)⟩,
         ⟨(some 4), none, .mov (.tmp 13)⟩]) (
       .ret)) (
      .skip))) (
    .seq (
     .seq (
      .region [
        ⟨(some 14), none, .mov (.tmp 1)⟩,
        ⟨(some 15), none, .lenS (.tmp 14)⟩,
        ⟨(some 16), none, .bin .eql (.tmp 15) (.cst (.p (.int .i64 1)))⟩,
        ⟨(some 17), none, .mov (.tmp 16)⟩,
        ⟨(some 18), (some (17, true)), .mov (.tmp 1)⟩,
        ⟨(some 19), (some (17, true)), .istr (.tmp 18) (.cst (.p (.int .i64 0)))⟩,
        ⟨(some 20), (some (17, true)), .bin .lss (.tmp 19) (.cst (.p (.int .u8 128)))⟩,
        ⟨(some 21), none, .pick (.tmp 17) (.tmp 20) (.cst (.p (.bool false)))⟩]) (
      .cond (.tmp 21) (
       .seq (
        .region [
          ⟨(some 22), none, .mov (.tmp 0)⟩,
          ⟨(some 23), none, .mov (.tmp 1)⟩,
          ⟨(some 24), none, .istr (.tmp 23) (.cst (.p (.int .i64 0)))⟩,
          ⟨(some 25), none, .call 111 [(.tmp 22), (.tmp 24)]⟩,
          ⟨(some 4), none, .mov (.tmp 25)⟩]) (
        .ret)) (
       .skip))) (
     .seq (
      .seq (
       .region [
         ⟨(some 27), none, .mov (.tmp 1)⟩,
         ⟨(some 28), none, .call 112 [(.tmp 27)]⟩,
         ⟨(some 26), none, .mov (.tmp 28)⟩,
         ⟨(some 29), none, .ext (.tmp 26) 0⟩,
         ⟨(some 30), none, .ext (.tmp 26) 1⟩,
         ⟨(some 5), none, .newv 256 110 (.cst (.p (.agg [(.bool false), (.bool false), (.bool false), (.bool false), (.bool false), (.bool false), (.bool false), (.bool false), (.bool false), (.bool false), (.bool false), (.bool false), (.bool false), (.bool false), (.bool false), (.bool false), (.bool false), (.bool false), (.bool false), (.bool false), (.bool false), (.bool false), (.bool false), (.bool false), (.bool false), (.bool false), (.bool false), (.bool false), (.bool false), (.bool false), (.bool false), (.bool false), (.bool false), (.bool false), (.bool false), (.bool false), (.bool false), (.bool false), (.bool false), (.bool false), (.bool false), (.bool false), (.bool false), (.bool false), (.bool false), (.bool false), (.bool false), (.bool false), (.bool false), (.bool false), (.bool false), (.bool false), (.bool false), (.bool false), (.bool false), (.bool false), (.bool false), (.bool false), (.bool false), (.bool false), (.bool false), (.bool false), (.bool false), (.bool false), (.bool false), (.bool false), (.bool false), (.bool false), (.bool false), (.bool false), (.bool false), (.bool false), (.bool false), (.bool false), (.bool false), (.bool false), (.bool false), (.bool false), (.bool false), (.bool false), (.bool false), (.bool false), (.bool false), (.bool false), (.bool false), (.bool false), (.bool false), (.bool false), (.bool false), (.bool false), (.bool false), (.bool false), (.bool false), (.bool false), (.bool false), (.bool false), (.bool false), (.bool false), (.bool false), (.bool false), (.bool false), (.bool false), (.bool false), (.bool false), (.bool false), (.bool false), (.bool false), (.bool false), (.bool false), (.bool false), (.bool false), (.bool false), (.bool false), (.bool false), (.bool false), (.bool false), (.bool false), (.bool false), (.bool false), (.bool false), (.bool false), (.bool false), (.bool false), (.bool false), (.bool false), (.bool false), (.bool false), (.bool false), (.bool false), (.bool false), (.bool false), (.bool false), (.bool false), (.bool false), (.bool false), (.bool false), (.bool false), (.bool false), (.bool false), (.bool false), (.bool false), (.bool false), (.bool false), (.bool false), (.bool false), (.bool false), (.bool false), (.bool false), (.bool false), (.bool false), (.bool false), (.bool false), (.bool false), (.bool false), (.bool false), (.bool false), (.bool false), (.bool false), (.bool false), (.bool false), (.bool false), (.bool false), (.bool false), (.bool false), (.bool false), (.bool false), (.bool false), (.bool false), (.bool false), (.bool false), (.bool false), (.bool false), (.bool false), (.bool false), (.bool false), (.bool false), (.bool false), (.bool false), (.bool false), (.bool false), (.bool false), (.bool false), (.bool false), (.bool false), (.bool false), (.bool false), (.bool false), (.bool false), (.bool false), (.bool false), (.bool false), (.bool false), (.bool false), (.bool false), (.bool false), (.bool false), (.bool false), (.bool false), (.bool false), (.bool false), (.bool false), (.bool false), (.bool false), (.bool false), (.bool false), (.bool false), (.bool false), (.bool false), (.bool false), (.bool false), (.bool false), (.bool false), (.bool false), (.bool false), (.bool false), (.bool false), (.bool false), (.bool false), (.bool false), (.bool false), (.bool false), (.bool false), (.bool false), (.bool false), (.bool false), (.bool false), (.bool false), (.bool false), (.bool false), (.bool false), (.bool false), (.bool false), (.bool false), (.bool false), (.bool false), (.bool false), (.bool false), (.bool false), (.bool false), (.bool false), (.bool false), (.bool false), (.bool false), (.bool false), (.bool false), (.bool false), (.bool false), (.bool false), (.bool false), (.bool false), (.bool false), (.bool false), (.bool false), (.bool false), (.bool false), (.bool false)])))⟩,
         ⟨none, none, .store 256 (.tmp 5) (.tmp 29)⟩,
         ⟨(some 6), none, .mov (.tmp 30)⟩]) (
       .seq (
        .region [
          ⟨(some 31), none, .mov (.tmp 6)⟩]) (
        .cond (.tmp 31) (
         .seq (
          .region [
            ⟨(some 32), none, .mov (.tmp 0)⟩,
            ⟨(some 33), none, .call 113 [(.tmp 32), (.tmp 5)]⟩,
            ⟨(some 4), none, .mov (.tmp 33)⟩]) (
          .ret)) (
         .skip)))) (
      .seq (
       .region [
         ⟨(some 34), none, .mov (.tmp 0)⟩,
         ⟨(some 35), none, .mov (.tmp 1)⟩,
         ⟨(some 36), none, .call 114 [(.tmp 34), (.tmp 35)]⟩,
         ⟨(some 4), none, .mov (.tmp 36)⟩]) (
       .ret))))))⟩
theorem low66 : lowFunc Tryz.prog gl0 66 = some lf66 := by kernel_rfl
def lf111_B0 : LCode := .block 0 (
  .loop (
   .seq (
    .seq (
     .region [
       ⟨(some 5), none, .mov (.tmp 0)⟩,
       ⟨(some 6), none, .lenS (.tmp 5)⟩,
       ⟨(some 7), none, .bin .gtr (.tmp 6) (.cst (.p (.int .i64 0)))⟩,
       ⟨(some 8), none, .mov (.tmp 7)⟩,
       ⟨(some 9), (some (8, true)), .mov (.tmp 0)⟩,
       ⟨(some 10), (some (8, true)), .istr (.tmp 9) (.cst (.p (.int .i64 0)))⟩,
       ⟨(some 11), (some (8, true)), .mov (.tmp 1)⟩,
       ⟨(some 12), (some (8, true)), .bin .eql (.tmp 10) (.tmp 11)⟩,
       ⟨(some 13), none, .pick (.tmp 8) (.tmp 12) (.cst (.p (.bool false)))⟩]) (
     .cond (.tmp 13) (
      .skip) (
      .exit 0))) (
    .block 1 (
     .region [
       ⟨(some 14), none, .mov (.tmp 0)⟩,
       ⟨(some 15), none, .slStr (.tmp 14) (some (.cst (.p (.int .i64 1)))) none⟩,
       ⟨(some 0), none, .mov (.tmp 15)⟩]))))
def lf111 : LFunc := ⟨17, [(.slot 4)], (
  .seq (
   .region [
     ⟨(some 4), none, .mov (.cst (.p (.str [])))⟩]) (
   .seq (
    lf111_B0) (
    .seq (
     .region [
       ⟨(some 16), none, .mov (.tmp 0)⟩,
       ⟨(some 4), none, .mov (.tmp 16)⟩]) (
     .ret))))⟩
theorem low111 : lowFunc Tryz.prog gl0 111 = some lf111 := by kernel_rfl
def lf110 : LFunc := ⟨43, [(.slot 4)], (
  .seq (
   .region [
     ⟨(some 4), none, .mov (.cst (.p (.str [])))⟩]) (
   .seq (
    .seq (
     .region [
       ⟨(some 7), none, .mov (.tmp 0)⟩,
       ⟨(some 8), none, .bin .eql (.tmp 7) (.cst (.p (.str [])))⟩,
       ⟨(some 9), none, .mov (.tmp 8)⟩,
       ⟨(some 10), (some (9, false)), .mov (.tmp 1)⟩,
       ⟨(some 11), (some (9, false)), .bin .eql (.tmp 10) (.cst (.p (.str [])))⟩,
       ⟨(some 12), none, .pick (.tmp 9) (.cst (.p (.bool true))) (.tmp 11)⟩]) (
     .cond (.tmp 12) (
      .seq (
       .region [
         ⟨(some 13), none, .mov (.tmp 0)⟩,
         ⟨(some 4), none, .mov (.tmp 13)⟩]) (
       .ret)) (
      .skip))) (
    .seq (
     .seq (
      .region [
        ⟨(some 14), none, .mov (.tmp 1)⟩,
        ⟨(some 15), none, .lenS (.tmp 14)⟩,
        ⟨(some 16), none, .bin .eql (.tmp 15) (.cst (.p (.int .i64 1)))⟩,
        ⟨(some 17), none, .mov (.tmp 16)⟩,
        ⟨(some 18), (some (17, true)), .mov (.tmp 1)⟩,
        ⟨(some 19), (some (17, true)), .istr (.tmp 18) (.cst (.p (.int .i64 0)))⟩,
        ⟨(some 20), (some (17, true)), .bin .lss (.tmp 19) (.cst (.p (.int .u8 128)))⟩,
        ⟨(some 21), none, .pick (.tmp 17) (.tmp 20) (.cst (.p (.bool false)))⟩]) (
      .cond (.tmp 21) (
       .seq (
        .regionD [
          ⟨(some 22), none, .mov (.tmp 0)⟩,
          ⟨(some 23), none, .mov (.tmp 1)⟩,
          ⟨(some 24), none, .istr (.tmp 23) (.cst (.p (.int .i64 0)))⟩,
          ⟨(some 25), none, .call 134 [(.tmp 22), (.tmp 24)]⟩,
          ⟨(some 26), none, .mov (.tmp 1)⟩,
          ⟨(some 27), none, .istr (.tmp 26) (.cst (.p (.int .i64 0)))⟩,
          ⟨(some 28), none, .call 111 [(.tmp 25), (.tmp 27)]⟩,
          ⟨(some 4), none, .mov (.tmp 28)⟩]) (
        .ret)) (
       .skip))) (
     .seq (
      .seq (
       .region [
         ⟨(some 30), none, .mov (.tmp 1)⟩,
         ⟨(some 31), none, .call 112 [(.tmp 30)]⟩,
         ⟨(some 29), none, .mov (.tmp 31)⟩,
         ⟨(some 32), none, .ext (.tmp 29) 0⟩,
         ⟨(some 33), none, .ext (.tmp 29) 1⟩,
         ⟨(some 5), none, .newv 256 110 (.cst (.p (.agg [(.bool false), (.bool false), (.bool false), (.bool false), (.bool false), (.bool false), (.bool false), (.bool false), (.bool false), (.bool false), (.bool false), (.bool false), (.bool false), (.bool false), (.bool false), (.bool false), (.bool false), (.bool false), (.bool false), (.bool false), (.bool false), (.bool false), (.bool false), (.bool false), (.bool false), (.bool false), (.bool false), (.bool false), (.bool false), (.bool false), (.bool false), (.bool false), (.bool false), (.bool false), (.bool false), (.bool false), (.bool false), (.bool false), (.bool false), (.bool false), (.bool false), (.bool false), (.bool false), (.bool false), (.bool false), (.bool false), (.bool false), (.bool false), (.bool false), (.bool false), (.bool false), (.bool false), (.bool false), (.bool false), (.bool false), (.bool false), (.bool false), (.bool false), (.bool false), (.bool false), (.bool false), (.bool false), (.bool false), (.bool false), (.bool false), (.bool false), (.bool false), (.bool false), (.bool false), (.bool false), (.bool false), (.bool false), (.bool false), (.bool false), (.bool false), (.bool false), (.bool false), (.bool false), (.bool false), (.bool false), (.bool false), (.bool false), (.bool false), (.bool false), (.bool false), (.bool false), (.bool false), (.bool false), (.bool false), (.bool false), (.bool false), (.bool false), (.bool false), (.bool false), (.bool false), (.bool false), (.bool false), (.bool false), (.bool false), (.bool false), (.bool false), (.bool false), (.bool false), (.bool false), (.bool false), (.bool false), (.bool false), (.bool false), (.bool false), (.bool false), (.bool false), (.bool false), (.bool false), (.bool false), (.bool false), (.bool false), (.bool false), (.bool false), (.bool false), (.bool false), (.bool false), (.bool false), (.bool false), (.bool false), (.bool false), (.bool false), (.bool false), (.bool false), (.bool false), (.bool false), (.bool false), (.bool false), (.bool false), (.bool false), (.bool false), (.bool false), (.bool false), (.bool false), (.bool false), (.bool false), (.bool false), (.bool false), (.bool false), (.bool false), (.bool false), (.bool false), (.bool false), (.bool false), (.bool false), (.bool false), (.bool false), (.bool false), (.bool false), (.bool false), (.bool false), (.bool false), (.bool false), (.bool false), (.bool false), (.bool false), (.bool false), (.bool false), (.bool false), (.bool false), (.bool false), (.bool false), (.bool false), (.bool false), (.bool false), (.bool false), (.bool false), (.bool false), (.bool false), (.bool false), (.bool false), (.bool false), (.bool false), (.bool false), (.bool false), (.bool false), (.bool false), (.bool false), (.bool false), (.bool false), (.bool false), (.bool false), (.bool false), (.bool false), (.bool false), (.bool false), (.bool false), (.bool false), (.bool false), (.bool false), (.bool false), (.bool false), (.bool false), (.bool false), (.bool false), (.bool false), (.bool false), (.bool false), (.bool false), (.bool false), (.bool false), (.bool false), (.bool false), (.bool false), (.bool false), (.bool false), (.bool false), (.bool false), (.bool false), (.bool false), (.bool false), (.bool false), (.bool false), (.bool false), (.bool false), (.bool false), (.bool false), (.bool false), (.bool false), (.bool false), (.bool false), (.bool false), (.bool false), (.bool false), (.bool false), (.bool false), (.bool false), (.bool false), (.bool false), (.bool false), (.bool false), (.bool false), (.bool false), (.bool false), (.bool false), (.bool false), (.bool false), (.bool false), (.bool false), (.bool false), (.bool false), (.bool false), (.bool false), (.bool false), (.bool false), (.bool false), (.bool false), (.bool false), (.bool false), (.bool false), (.bool false), (.bool false)])))⟩,
         ⟨none, none, .store 256 (.tmp 5) (.tmp 32)⟩,
         ⟨(some 6), none, .mov (.tmp 33)⟩]) (
       .seq (
        .region [
          ⟨(some 34), none, .mov (.tmp 6)⟩]) (
        .cond (.tmp 34) (
         .seq (
          .region [
            ⟨(some 35), none, .mov (.tmp 0)⟩,
            ⟨(some 36), none, .call 135 [(.tmp 35), (.tmp 5)]⟩,
            ⟨(some 37), none, .call 113 [(.tmp 36), (.tmp 5)]⟩,
            ⟨(some 4), none, .mov (.tmp 37)⟩]) (
          .ret)) (
         .skip)))) (
      .seq (
       .region [
         ⟨(some 38), none, .mov (.tmp 0)⟩,
         ⟨(some 39), none, .mov (.tmp 1)⟩,
         ⟨(some 40), none, .call 136 [(.tmp 38), (.tmp 39)]⟩,
         ⟨(some 41), none, .mov (.tmp 1)⟩,
         ⟨(some 42), none, .call 114 [(.tmp 40), (.tmp 41)]⟩,
         ⟨(some 4), none, .mov (.tmp 42)⟩]) (
       .ret))))))⟩
theorem low110 : lowFunc Tryz.prog gl0 110 = some lf110 := by kernel_rfl
def lf112_B0 : LCode := .block 0 (
  .loop (
   .seq (
    .seq (
     .region [
       ⟨(some 6), none, .mov (.tmp 4)⟩,
       ⟨(some 7), none, .mov (.tmp 0)⟩,
       ⟨(some 8), none, .lenS (.tmp 7)⟩,
       ⟨(some 9), none, .bin .lss (.tmp 6) (.tmp 8)⟩]) (
     .cond (.tmp 9) (
      .skip) (
      .exit 0))) (
    .seq (
     .block 1 (
      .seq (
       .region [
         ⟨(some 12), none, .mov (.tmp 0)⟩,
         ⟨(some 13), none, .mov (.tmp 4)⟩,
         ⟨(some 14), none, .istr (.tmp 12) (.tmp 13)⟩,
         ⟨(some 5), none, .mov (.tmp 14)⟩]) (
       .seq (
        .seq (
         .region [
           ⟨(some 15), none, .mov (.tmp 5)⟩,
           ⟨(some 16), none, .bin .geq (.tmp 15) (.cst (.p (.int .u8 128)))⟩]) (
         .cond (.tmp 16) (
          .seq (
           .region [
             ⟨(some 17), none, .load 256 true (.tmp 2)⟩,
             ⟨none, none, .store 256 (.tmp 2) (.tmp 17)⟩,
             ⟨(some 3), none, .mov (.cst (.p (.bool false)))⟩]) (
           .ret)) (
          .skip))) (
        .region [
          ⟨(some 18), none, .mov (.tmp 5)⟩,
          ⟨(some 19), none, .iaadr 256 1 (.tmp 2) (.tmp 18)⟩,
          ⟨none, none, .store 1 (.tmp 19) (.cst (.p (.bool true)))⟩])))) (
     .region [
       ⟨(some 10), none, .mov (.tmp 4)⟩,
       ⟨(some 11), none, .bin .add (.tmp 10) (.cst (.p (.int .i64 1)))⟩,
       ⟨(some 4), none, .mov (.tmp 11)⟩]))))
def lf112 : LFunc := ⟨21, [(.cell 2 256 true), (.slot 3)], (
  .seq (
   .region [
     ⟨(some 2), none, .newv 256 110 (.cst (.p (.agg [(.bool false), (.bool false), (.bool false), (.bool false), (.bool false), (.bool false), (.bool false), (.bool false), (.bool false), (.bool false), (.bool false), (.bool false), (.bool false), (.bool false), (.bool false), (.bool false), (.bool false), (.bool false), (.bool false), (.bool false), (.bool false), (.bool false), (.bool false), (.bool false), (.bool false), (.bool false), (.bool false), (.bool false), (.bool false), (.bool false), (.bool false), (.bool false), (.bool false), (.bool false), (.bool false), (.bool false), (.bool false), (.bool false), (.bool false), (.bool false), (.bool false), (.bool false), (.bool false), (.bool false), (.bool false), (.bool false), (.bool false), (.bool false), (.bool false), (.bool false), (.bool false), (.bool false), (.bool false), (.bool false), (.bool false), (.bool false), (.bool false), (.bool false), (.bool false), (.bool false), (.bool false), (.bool false), (.bool false), (.bool false), (.bool false), (.bool false), (.bool false), (.bool false), (.bool false), (.bool false), (.bool false), (.bool false), (.bool false), (.bool false), (.bool false), (.bool false), (.bool false), (.bool false), (.bool false), (.bool false), (.bool false), (.bool false), (.bool false), (.bool false), (.bool false), (.bool false), (.bool false), (.bool false), (.bool false), (.bool false), (.bool false), (.bool false), (.bool false), (.bool false), (.bool false), (.bool false), (.bool false), (.bool false), (.bool false), (.bool false), (.bool false), (.bool false), (.bool false), (.bool false), (.bool false), (.bool false), (.bool false), (.bool false), (.bool false), (.bool false), (.bool false), (.bool false), (.bool false), (.bool false), (.bool false), (.bool false), (.bool false), (.bool false), (.bool false), (.bool false), (.bool false), (.bool false), (.bool false), (.bool false), (.bool false), (.bool false), (.bool false), (.bool false), (.bool false), (.bool false), (.bool false), (.bool false), (.bool false), (.bool false), (.bool false), (.bool false), (.bool false), (.bool false), (.bool false), (.bool false), (.bool false), (.bool false), (.bool false), (.bool false), (.bool false), (.bool false), (.bool false), (.bool false), (.bool false), (.bool false), (.bool false), (.bool false), (.bool false), (.bool false), (.bool false), (.bool false), (.bool false), (.bool false), (.bool false), (.bool false), (.bool false), (.bool false), (.bool false), (.bool false), (.bool false), (.bool false), (.bool false), (.bool false), (.bool false), (.bool false), (.bool false), (.bool false), (.bool false), (.bool false), (.bool false), (.bool false), (.bool false), (.bool false), (.bool false), (.bool false), (.bool false), (.bool false), (.bool false), (.bool false), (.bool false), (.bool false), (.bool false), (.bool false), (.bool false), (.bool false), (.bool false), (.bool false), (.bool false), (.bool false), (.bool false), (.bool false), (.bool false), (.bool false), (.bool false), (.bool false), (.bool false), (.bool false), (.bool false), (.bool false), (.bool false), (.bool false), (.bool false), (.bool false), (.bool false), (.bool false), (.bool false), (.bool false), (.bool false), (.bool false), (.bool false), (.bool false), (.bool false), (.bool false), (.bool false), (.bool false), (.bool false), (.bool false), (.bool false), (.bool false), (.bool false), (.bool false), (.bool false), (.bool false), (.bool false), (.bool false), (.bool false), (.bool false), (.bool false), (.bool false), (.bool false), (.bool false), (.bool false), (.bool false), (.bool false), (.bool false), (.bool false), (.bool false), (.bool false), (.bool false), (.bool false), (.bool false), (.bool false), (.bool false), (.bool false), (.bool false), (.bool false), (.bool false), (.bool false), (.bool false), (.bool false), (.bool false)])))⟩,
     ⟨(some 3), none, .mov (.cst (.p (.bool false)))⟩]) (
   .seq (
    .seq (
     .region [
       ⟨(some 4), none, .mov (.cst (.p (.int .i64 0)))⟩]) (
     lf112_B0)) (
    .seq (
     .region [
       ⟨(some 20), none, .load 256 true (.tmp 2)⟩,
       ⟨none, none, .store 256 (.tmp 2) (.tmp 20)⟩,
       ⟨(some 3), none, .mov (.cst (.p (.bool true)))⟩]) (
     .ret))))⟩
theorem low112 : lowFunc Tryz.prog gl0 112 = some lf112 := by kernel_rfl
def lf113_B0 : LCode := .block 0 (
  .loop (
   .seq (
    .seq (
     .region [
       ⟨(some 5), none, .mov (.tmp 0)⟩,
       ⟨(some 6), none, .lenS (.tmp 5)⟩,
       ⟨(some 7), none, .bin .gtr (.tmp 6) (.cst (.p (.int .i64 0)))⟩]) (
     .cond (.tmp 7) (
      .skip) (
      .exit 0))) (
    .block 1 (
     .seq (
      .seq (
       .region [
         ⟨(some 8), none, .mov (.tmp 1)⟩,
         ⟨(some 9), none, .mov (.tmp 0)⟩,
         ⟨(some 10), none, .istr (.tmp 9) (.cst (.p (.int .i64 0)))⟩,
         ⟨(some 11), none, .call 137 [(.tmp 8), (.tmp 10)]⟩,
         ⟨(some 12), none, .un .not (.tmp 11)⟩]) (
       .cond (.tmp 12) (
        .exit 0) (
        .skip))) (
      .region [
        ⟨(some 13), none, .mov (.tmp 0)⟩,
        ⟨(some 14), none, .slStr (.tmp 13) (some (.cst (.p (.int .i64 1)))) none⟩,
        ⟨(some 0), none, .mov (.tmp 14)⟩])))))
def lf113 : LFunc := ⟨16, [(.slot 4)], (
  .seq (
   .region [
     ⟨(some 4), none, .mov (.cst (.p (.str [])))⟩]) (
   .seq (
    lf113_B0) (
    .seq (
     .region [
       ⟨(some 15), none, .mov (.tmp 0)⟩,
       ⟨(some 4), none, .mov (.tmp 15)⟩]) (
     .ret))))⟩
theorem low113 : lowFunc Tryz.prog gl0 113 = some lf113 := by kernel_rfl
def lf135_B0 : LCode := .block 0 (
  .loop (
   .seq (
    .seq (
     .region [
       ⟨(some 5), none, .mov (.tmp 0)⟩,
       ⟨(some 6), none, .lenS (.tmp 5)⟩,
       ⟨(some 7), none, .bin .gtr (.tmp 6) (.cst (.p (.int .i64 0)))⟩]) (
     .cond (.tmp 7) (
      .skip) (
      .exit 0))) (
    .block 1 (
     .seq (
      .seq (
       .region [
         ⟨(some 8), none, .mov (.tmp 1)⟩,
         ⟨(some 9), none, .mov (.tmp 0)⟩,
         ⟨(some 10), none, .mov (.tmp 0)⟩,
         ⟨(some 11), none, .lenS (.tmp 10)⟩,
         ⟨(some 12), none, .bin .sub (.tmp 11) (.cst (.p (.int .i64 1)))⟩,
         ⟨(some 13), none, .istr (.tmp 9) (.tmp 12)⟩,
         ⟨(some 14), none, .call 137 [(.tmp 8), (.tmp 13)]⟩,
         ⟨(some 15), none, .un .not (.tmp 14)⟩]) (
       .cond (.tmp 15) (
        .exit 0) (
        .skip))) (
      .region [
        ⟨(some 16), none, .mov (.tmp 0)⟩,
        ⟨(some 17), none, .mov (.tmp 0)⟩,
        ⟨(some 18), none, .lenS (.tmp 17)⟩,
        ⟨(some 19), none, .bin .sub (.tmp 18) (.cst (.p (.int .i64 1)))⟩,
        ⟨(some 20), none, .slStr (.tmp 16) none (some (.tmp 19))⟩,
        ⟨(some 0), none, .mov (.tmp 20)⟩])))))
def lf135 : LFunc := ⟨22, [(.slot 4)], (
  .seq (
   .region [
     ⟨(some 4), none, .mov (.cst (.p (.str [])))⟩]) (
   .seq (
    lf135_B0) (
    .seq (
     .region [
       ⟨(some 21), none, .mov (.tmp 0)⟩,
       ⟨(some 4), none, .mov (.tmp 21)⟩]) (
     .ret))))⟩
theorem low135 : lowFunc Tryz.prog gl0 135 = some lf135 := by kernel_rfl
def lf137 : LFunc := ⟨10, [(.slot 4)], (
  .seq (
   .region [
     ⟨(some 4), none, .mov (.cst (.p (.bool false)))⟩]) (
   .seq (
    .region [
      ⟨(some 5), none, .mov (.tmp 0)⟩,
      ⟨(some 6), none, .mov (.tmp 1)⟩,
      ⟨(some 7), none, .nilc (.tmp 5)⟩,
      ⟨(some 8), none, .iaadr 256 1 (.tmp 7) (.tmp 6)⟩,
      ⟨(some 9), none, .load 1 false (.tmp 8)⟩,
      ⟨(some 4), none, .mov (.tmp 9)⟩]) (
    .ret)))⟩
theorem low137 : lowFunc Tryz.prog gl0 137 = some lf137 := by kernel_rfl
def lf65 : LFunc := ⟨10, [(.slot 2)], (
  .seq (
   .region [
     ⟨(some 2), none, .mov (.cst (.p (.bool false)))⟩]) (
   .seq (
    .region [
      ⟨(some 3), none, .mov (.tmp 0)⟩,
      ⟨(some 4), none, .bin .neq (.tmp 3) (.cst (.p (.str [])))⟩,
      ⟨(some 5), none, .mov (.tmp 4)⟩,
      ⟨(some 6), (some (5, true)), .mov (.tmp 0)⟩,
      ⟨(some 7), (some (5, true)), .call 110 [(.tmp 6), (.cst (.p (.str [48, 49, 50, 51, 52, 53, 54, 55, 56, 57])))]⟩,
      ⟨(some 8), (some (5, true)), .bin .eql (.tmp 7) (.cst (.p (.str [])))⟩,
      ⟨(some 9), none, .pick (.tmp 5) (.tmp 8) (.cst (.p (.bool false)))⟩,
      ⟨(some 2), none, .mov (.tmp 9)⟩]) (
    .ret)))⟩
theorem low65 : lowFunc Tryz.prog gl0 65 = some lf65 := by kernel_rfl
def lf68_B0 : LCode := .block 0 (
  .loop (
   .seq (
    .seq (
     .region [
       ⟨(some 8), none, .mov (.tmp 0)⟩,
       ⟨(some 9), none, .bin .neq (.tmp 8) (.cst (.p (.str [])))⟩]) (
     .cond (.tmp 9) (
      .skip) (
      .exit 0))) (
    .block 1 (
     .seq (
      .region [
        ⟨(some 10), none, .mov (.tmp 0)⟩,
        ⟨(some 11), none, .lenS (.tmp 10)⟩,
        ⟨(some 12), none, .bin .sub (.tmp 11) (.cst (.p (.int .i64 1)))⟩,
        ⟨(some 13), none, .bin .rem (.tmp 12) (.cst (.p (.int .i64 19)))⟩,
        ⟨(some 14), none, .bin .add (.tmp 13) (.cst (.p (.int .i64 1)))⟩,
        ⟨(some 3), none, .mov (.tmp 14)⟩]) (
      .seq (
       .region [
         ⟨(some 16), none, .mov (.tmp 0)⟩,
         ⟨(some 17), none, .mov (.tmp 3)⟩,
         ⟨(some 18), none, .slStr (.tmp 16) none (some (.tmp 17))⟩,
         ⟨(some 19), none, .call 115 [(.tmp 18), (.cst (.p (.int .i64 10))), (.cst (.p (.int .i64 64)))]⟩,
         ⟨(some 15), none, .mov (.tmp 19)⟩,
         ⟨(some 20), none, .ext (.tmp 15) 0⟩,
         ⟨(some 21), none, .ext (.tmp 15) 1⟩,
         ⟨(some 4), none, .mov (.tmp 20)⟩,
         ⟨(some 5), none, .mov (.tmp 21)⟩]) (
       .seq (
        .region [
          ⟨(some 22), none, .mov (.tmp 2)⟩,
          ⟨(some 23), none, .buildSl 1 40 (.p (.int .u64 0)) 1 [(0, (.cst (.p (.int .u64 10000000000000000000))))]⟩,
          ⟨(some 24), none, .call 86 [(.tmp 22), (.tmp 23)]⟩,
          ⟨(some 25), none, .mov (.tmp 4)⟩,
          ⟨(some 26), none, .buildSl 1 40 (.p (.int .u64 0)) 1 [(0, (.tmp 25))]⟩,
          ⟨(some 27), none, .call 92 [(.tmp 26)]⟩,
          ⟨(some 28), none, .call 79 [(.tmp 24), (.tmp 27)]⟩,
          ⟨(some 2), none, .mov (.tmp 28)⟩]) (
        .region [
          ⟨(some 29), none, .mov (.tmp 0)⟩,
          ⟨(some 30), none, .mov (.tmp 3)⟩,
          ⟨(some 31), none, .slStr (.tmp 29) (some (.tmp 30)) none⟩,
          ⟨(some 0), none, .mov (.tmp 31)⟩])))))))
def lf68 : LFunc := ⟨33, [(.slot 2)], (
  .seq (
   .region [
     ⟨(some 2), none, .mov (.cst (.tight []))⟩]) (
   .seq (
    .region [
      ⟨(some 6), none, .mov (.tmp 0)⟩,
      ⟨(some 7), none, .call 66 [(.tmp 6), (.cst (.p (.str [48])))]⟩,
      ⟨(some 0), none, .mov (.tmp 7)⟩]) (
    .seq (
     lf68_B0) (
     .seq (
      .region [
        ⟨(some 32), none, .mov (.tmp 2)⟩,
        ⟨(some 2), none, .mov (.tmp 32)⟩]) (
      .ret)))))⟩
theorem low68 : lowFunc Tryz.prog gl0 68 = some lf68 := by kernel_rfl
def lf16 : LFunc := ⟨17, [(.slot 2), (.slot 3)], (
  .seq (
   .region [
     ⟨(some 2), none, .mov (.cst (.tight []))⟩,
     ⟨(some 3), none, .mov (.cst (.p (.int .i64 0)))⟩]) (
   .seq (
    .seq (
     .region [
       ⟨(some 4), none, .mov (.tmp 0)⟩,
       ⟨(some 5), none, .call 65 [(.tmp 4)]⟩,
       ⟨(some 6), none, .un .not (.tmp 5)⟩]) (
     .cond (.tmp 6) (
      .seq (
       .region [
         ⟨(some 2), none, .mov (.cst (.tight []))⟩,
         ⟨(some 3), none, .mov (.cst (.p (.int .i64 2)))⟩]) (
       .ret)) (
      .skip))) (
    .seq (
     .region [
       ⟨(some 7), none, .mov (.tmp 0)⟩,
       ⟨(some 8), none, .call 66 [(.tmp 7), (.cst (.p (.str [48])))]⟩,
       ⟨(some 0), none, .mov (.tmp 8)⟩]) (
     .seq (
      .seq (
       .region [
         ⟨(some 9), none, .mov (.tmp 0)⟩,
         ⟨(some 10), none, .lenS (.tmp 9)⟩,
         ⟨(some 11), none, .bin .gtr (.tmp 10) (.cst (.p (.int .i64 1280)))⟩]) (
       .cond (.tmp 11) (
        .seq (
         .region [
           ⟨(some 2), none, .mov (.cst (.tight []))⟩,
           ⟨(some 3), none, .mov (.cst (.p (.int .i64 4)))⟩]) (
         .ret)) (
        .skip))) (
      .seq (
       .region [
         ⟨(some 12), none, .mov (.tmp 0)⟩,
         ⟨(some 13), none, .call 68 [(.tmp 12)]⟩,
         ⟨(some 14), none, .call 67 [(.tmp 13)]⟩,
         ⟨(some 15), none, .ext (.tmp 14) 0⟩,
         ⟨(some 16), none, .ext (.tmp 14) 1⟩,
         ⟨(some 2), none, .mov (.tmp 15)⟩,
         ⟨(some 3), none, .mov (.tmp 16)⟩]) (
       .ret))))))⟩
theorem low16 : lowFunc Tryz.prog gl0 16 = some lf16 := by kernel_rfl
def lf115 : LFunc := ⟨26, [(.slot 6), (.slot 7)], (
  .seq (
   .region [
     ⟨(some 6), none, .mov (.cst (.p (.int .u64 0)))⟩,
     ⟨(some 7), none, .mov (.cst (.p .nili))⟩]) (
   .seq (
    .region [
      ⟨(some 11), none, .mov (.tmp 0)⟩,
      ⟨(some 12), none, .mov (.tmp 1)⟩,
      ⟨(some 13), none, .mov (.tmp 2)⟩,
      ⟨(some 14), none, .call 140 [(.tmp 11), (.tmp 12), (.tmp 13)]⟩,
      ⟨(some 10), none, .mov (.tmp 14)⟩,
      ⟨(some 15), none, .ext (.tmp 10) 0⟩,
      ⟨(some 16), none, .ext (.tmp 10) 1⟩,
      ⟨(some 8), none, .mov (.tmp 15)⟩,
      ⟨(some 9), none, .mov (.tmp 16)⟩]) (
    .seq (
     .seq (
      .region [
        ⟨(some 17), none, .mov (.tmp 9)⟩,
        ⟨(some 18), none, .bad⟩]) (
      .cond (.tmp 18) (
       .seq (
        .region [
          ⟨(some 19), none, .mov (.tmp 8)⟩,
          ⟨(some 20), none, .mov (.tmp 0)⟩,
          ⟨(some 21), none, .mov (.tmp 1)⟩,
          ⟨(some 22), none, .mov (.tmp 2)⟩,
          ⟨(some 23), none, .mov (.tmp 9)⟩,
          ⟨(some 24), none, .call 141 [(.cst (.p (.str [80, 97, 114, 115, 101, 85, 105, 110, 116]))), (.tmp 20), (.tmp 21), (.tmp 22), (.tmp 23)]⟩,
          ⟨(some 6), none, .mov (.tmp 19)⟩,
          ⟨(some 7), none, .mov (.tmp 24)⟩]) (
        .ret)) (
       .skip))) (
     .seq (
      .region [
        ⟨(some 25), none, .mov (.tmp 8)⟩,
        ⟨(some 6), none, .mov (.tmp 25)⟩,
        ⟨(some 7), none, .mov (.cst (.p .nili))⟩]) (
      .ret)))))⟩
theorem low115 : lowFunc Tryz.prog gl0 115 = some lf115 := by kernel_rfl
def lf140_B0 : LCode := .block 3 (
  .loop (
   .seq (
    .region [
      ⟨(some 102), none, .bin .lss (.tmp 101) (.tmp 100)⟩]) (
    .seq (
     .cond (.tmp 102) (
      .skip) (
      .exit 3)) (
     .seq (
      .block 4 (
       .seq (
        .region [
          ⟨(some 103), none, .iadr 1 (.tmp 99) (.tmp 101)⟩,
          ⟨(some 104), none, .load 1 false (.tmp 103)⟩,
          ⟨(some 15), none, .mov (.tmp 104)⟩]) (
        .seq (
         .region [
           ⟨(some 16), none, .mov (.cst (.p (.int .u8 0)))⟩]) (
         .seq (
          .block 5 (
           .seq (
            .region [
              ⟨(some 107), none, .mov (.tmp 15)⟩,
              ⟨(some 108), none, .bin .eql (.tmp 107) (.cst (.p (.int .u8 95)))⟩,
              ⟨(some 109), none, .mov (.tmp 108)⟩,
              ⟨(some 110), (some (109, true)), .mov (.tmp 8)⟩,
              ⟨(some 111), none, .pick (.tmp 109) (.tmp 110) (.cst (.p (.bool false)))⟩,
              ⟨(some 106), none, .mov (.tmp 111)⟩]) (
            .cond (.tmp 106) (
             .seq (
              .region [
                ⟨(some 12), none, .mov (.cst (.p (.bool true)))⟩]) (
              .exit 4)) (
             .seq (
              .region [
                ⟨(some 113), none, .mov (.tmp 15)⟩,
                ⟨(some 114), none, .bin .leq (.cst (.p (.int .u8 48))) (.tmp 113)⟩,
                ⟨(some 115), none, .mov (.tmp 114)⟩,
                ⟨(some 116), (some (115, true)), .mov (.tmp 15)⟩,
                ⟨(some 117), (some (115, true)), .bin .leq (.tmp 116) (.cst (.p (.int .u8 57)))⟩,
                ⟨(some 118), none, .pick (.tmp 115) (.tmp 117) (.cst (.p (.bool false)))⟩,
                ⟨(some 112), none, .mov (.tmp 118)⟩]) (
              .cond (.tmp 112) (
               .region [
                 ⟨(some 119), none, .mov (.tmp 15)⟩,
                 ⟨(some 120), none, .bin .sub (.tmp 119) (.cst (.p (.int .u8 48)))⟩,
                 ⟨(some 16), none, .mov (.tmp 120)⟩]) (
               .seq (
                .region [
                  ⟨(some 122), none, .mov (.tmp 15)⟩,
                  ⟨(some 123), none, .call 155 [(.tmp 122)]⟩,
                  ⟨(some 124), none, .bin .leq (.cst (.p (.int .u8 97))) (.tmp 123)⟩,
                  ⟨(some 125), none, .mov (.tmp 124)⟩,
                  ⟨(some 126), (some (125, true)), .mov (.tmp 15)⟩,
                  ⟨(some 127), (some (125, true)), .call 155 [(.tmp 126)]⟩,
                  ⟨(some 128), (some (125, true)), .bin .leq (.tmp 127) (.cst (.p (.int .u8 122)))⟩,
                  ⟨(some 129), none, .pick (.tmp 125) (.tmp 128) (.cst (.p (.bool false)))⟩,
                  ⟨(some 121), none, .mov (.tmp 129)⟩]) (
                .cond (.tmp 121) (
                 .region [
                   ⟨(some 130), none, .mov (.tmp 15)⟩,
                   ⟨(some 131), none, .call 155 [(.tmp 130)]⟩,
                   ⟨(some 132), none, .bin .sub (.tmp 131) (.cst (.p (.int .u8 97)))⟩,
                   ⟨(some 133), none, .bin .add (.tmp 132) (.cst (.p (.int .u8 10)))⟩,
                   ⟨(some 16), none, .mov (.tmp 133)⟩]) (
                 .seq (
                  .region [
                    ⟨(some 105), none, .bad⟩,
                    ⟨(some 6), none, .mov (.cst (.p (.int .u64 0)))⟩,
                    ⟨(some 7), none, .mov (.tmp 105)⟩]) (
                  .ret))))))))) (
          .seq (
           .seq (
            .region [
              ⟨(some 134), none, .mov (.tmp 16)⟩,
              ⟨(some 135), none, .mov (.tmp 1)⟩,
              ⟨(some 136), none, .conv (.toInt .u8) (.tmp 135)⟩,
              ⟨(some 137), none, .bin .geq (.tmp 134) (.tmp 136)⟩]) (
            .cond (.tmp 137) (
             .seq (
              .region [
                ⟨(some 138), none, .bad⟩,
                ⟨(some 6), none, .mov (.cst (.p (.int .u64 0)))⟩,
                ⟨(some 7), none, .mov (.tmp 138)⟩]) (
              .ret)) (
             .skip))) (
           .seq (
            .seq (
             .region [
               ⟨(some 139), none, .mov (.tmp 13)⟩,
               ⟨(some 140), none, .mov (.tmp 10)⟩,
               ⟨(some 141), none, .bin .geq (.tmp 139) (.tmp 140)⟩]) (
             .cond (.tmp 141) (
              .seq (
               .region [
                 ⟨(some 142), none, .mov (.tmp 11)⟩,
                 ⟨(some 143), none, .bad⟩,
                 ⟨(some 6), none, .mov (.tmp 142)⟩,
                 ⟨(some 7), none, .mov (.tmp 143)⟩]) (
               .ret)) (
              .skip))) (
            .seq (
             .region [
               ⟨(some 144), none, .mov (.tmp 13)⟩,
               ⟨(some 145), none, .mov (.tmp 1)⟩,
               ⟨(some 146), none, .conv (.toInt .u64) (.tmp 145)⟩,
               ⟨(some 147), none, .bin .mul (.tmp 144) (.tmp 146)⟩,
               ⟨(some 13), none, .mov (.tmp 147)⟩]) (
             .seq (
              .region [
                ⟨(some 148), none, .mov (.tmp 13)⟩,
                ⟨(some 149), none, .mov (.tmp 16)⟩,
                ⟨(some 150), none, .conv (.toInt .u64) (.tmp 149)⟩,
                ⟨(some 151), none, .bin .add (.tmp 148) (.tmp 150)⟩,
                ⟨(some 17), none, .mov (.tmp 151)⟩]) (
              .seq (
               .seq (
                .region [
                  ⟨(some 152), none, .mov (.tmp 17)⟩,
                  ⟨(some 153), none, .mov (.tmp 13)⟩,
                  ⟨(some 154), none, .bin .lss (.tmp 152) (.tmp 153)⟩,
                  ⟨(some 155), none, .mov (.tmp 154)⟩,
                  ⟨(some 156), (some (155, false)), .mov (.tmp 17)⟩,
                  ⟨(some 157), (some (155, false)), .mov (.tmp 11)⟩,
                  ⟨(some 158), (some (155, false)), .bin .gtr (.tmp 156) (.tmp 157)⟩,
                  ⟨(some 159), none, .pick (.tmp 155) (.cst (.p (.bool true))) (.tmp 158)⟩]) (
                .cond (.tmp 159) (
                 .seq (
                  .region [
                    ⟨(some 160), none, .mov (.tmp 11)⟩,
                    ⟨(some 161), none, .bad⟩,
                    ⟨(some 6), none, .mov (.tmp 160)⟩,
                    ⟨(some 7), none, .mov (.tmp 161)⟩]) (
                  .ret)) (
                 .skip))) (
               .region [
                 ⟨(some 162), none, .mov (.tmp 17)⟩,
                 ⟨(some 13), none, .mov (.tmp 162)⟩])))))))))) (
      .region [
        ⟨(some 163), none, .bin .add (.tmp 101) (.cst (.p (.int .i64 1)))⟩,
        ⟨(some 101), none, .mov (.tmp 163)⟩])))))
def lf140 : LFunc := ⟨172, [(.slot 6), (.slot 7)], (
  .seq (
   .region [
     ⟨(some 6), none, .mov (.cst (.p (.int .u64 0)))⟩,
     ⟨(some 7), none, .mov (.cst (.p .nili))⟩]) (
   .seq (
    .seq (
     .region [
       ⟨(some 18), none, .mov (.tmp 0)⟩,
       ⟨(some 19), none, .bin .eql (.tmp 18) (.cst (.p (.str [])))⟩]) (
     .cond (.tmp 19) (
      .seq (
       .region [
         ⟨(some 20), none, .bad⟩,
         ⟨(some 6), none, .mov (.cst (.p (.int .u64 0)))⟩,
         ⟨(some 7), none, .mov (.tmp 20)⟩]) (
       .ret)) (
      .skip))) (
    .seq (
     .region [
       ⟨(some 21), none, .mov (.tmp 1)⟩,
       ⟨(some 22), none, .bin .eql (.tmp 21) (.cst (.p (.int .i64 0)))⟩,
       ⟨(some 8), none, .mov (.tmp 22)⟩]) (
     .seq (
      .region [
        ⟨(some 23), none, .mov (.tmp 0)⟩,
        ⟨(some 9), none, .mov (.tmp 23)⟩]) (
      .seq (
       .block 0 (
        .seq (
         .region [
           ⟨(some 26), none, .mov (.tmp 1)⟩,
           ⟨(some 27), none, .bin .leq (.cst (.p (.int .i64 2))) (.tmp 26)⟩,
           ⟨(some 28), none, .mov (.tmp 27)⟩,
           ⟨(some 29), (some (28, true)), .mov (.tmp 1)⟩,
           ⟨(some 30), (some (28, true)), .bin .leq (.tmp 29) (.cst (.p (.int .i64 36)))⟩,
           ⟨(some 31), none, .pick (.tmp 28) (.tmp 30) (.cst (.p (.bool false)))⟩,
           ⟨(some 25), none, .mov (.tmp 31)⟩]) (
         .cond (.tmp 25) (
          .skip) (
          .seq (
           .region [
             ⟨(some 33), none, .mov (.tmp 1)⟩,
             ⟨(some 34), none, .bin .eql (.tmp 33) (.cst (.p (.int .i64 0)))⟩,
             ⟨(some 32), none, .mov (.tmp 34)⟩]) (
           .cond (.tmp 32) (
            .seq (
             .region [
               ⟨(some 1), none, .mov (.cst (.p (.int .i64 10)))⟩]) (
             .seq (
              .region [
                ⟨(some 35), none, .mov (.tmp 0)⟩,
                ⟨(some 36), none, .istr (.tmp 35) (.cst (.p (.int .i64 0)))⟩,
                ⟨(some 37), none, .bin .eql (.tmp 36) (.cst (.p (.int .u8 48)))⟩]) (
              .cond (.tmp 37) (
               .block 1 (
                .seq (
                 .region [
                   ⟨(some 41), none, .mov (.tmp 0)⟩,
                   ⟨(some 42), none, .lenS (.tmp 41)⟩,
                   ⟨(some 43), none, .bin .geq (.tmp 42) (.cst (.p (.int .i64 3)))⟩,
                   ⟨(some 44), none, .mov (.tmp 43)⟩,
                   ⟨(some 45), (some (44, true)), .mov (.tmp 0)⟩,
                   ⟨(some 46), (some (44, true)), .istr (.tmp 45) (.cst (.p (.int .i64 1)))⟩,
                   ⟨(some 47), (some (44, true)), .call 155 [(.tmp 46)]⟩,
                   ⟨(some 48), (some (44, true)), .bin .eql (.tmp 47) (.cst (.p (.int .u8 98)))⟩,
                   ⟨(some 49), none, .pick (.tmp 44) (.tmp 48) (.cst (.p (.bool false)))⟩,
                   ⟨(some 40), none, .mov (.tmp 49)⟩]) (
                 .cond (.tmp 40) (
                  .seq (
                   .region [
                     ⟨(some 1), none, .mov (.cst (.p (.int .i64 2)))⟩]) (
                   .region [
                     ⟨(some 50), none, .mov (.tmp 0)⟩,
                     ⟨(some 51), none, .slStr (.tmp 50) (some (.cst (.p (.int .i64 2)))) none⟩,
                     ⟨(some 0), none, .mov (.tmp 51)⟩])) (
                  .seq (
                   .region [
                     ⟨(some 53), none, .mov (.tmp 0)⟩,
                     ⟨(some 54), none, .lenS (.tmp 53)⟩,
                     ⟨(some 55), none, .bin .geq (.tmp 54) (.cst (.p (.int .i64 3)))⟩,
                     ⟨(some 56), none, .mov (.tmp 55)⟩,
                     ⟨(some 57), (some (56, true)), .mov (.tmp 0)⟩,
                     ⟨(some 58), (some (56, true)), .istr (.tmp 57) (.cst (.p (.int .i64 1)))⟩,
                     ⟨(some 59), (some (56, true)), .call 155 [(.tmp 58)]⟩,
                     ⟨(some 60), (some (56, true)), .bin .eql (.tmp 59) (.cst (.p (.int .u8 111)))⟩,
                     ⟨(some 61), none, .pick (.tmp 56) (.tmp 60) (.cst (.p (.bool false)))⟩,
                     ⟨(some 52), none, .mov (.tmp 61)⟩]) (
                   .cond (.tmp 52) (
                    .seq (
                     .region [
                       ⟨(some 1), none, .mov (.cst (.p (.int .i64 8)))⟩]) (
                     .region [
                       ⟨(some 62), none, .mov (.tmp 0)⟩,
                       ⟨(some 63), none, .slStr (.tmp 62) (some (.cst (.p (.int .i64 2)))) none⟩,
                       ⟨(some 0), none, .mov (.tmp 63)⟩])) (
                    .seq (
                     .region [
                       ⟨(some 65), none, .mov (.tmp 0)⟩,
                       ⟨(some 66), none, .lenS (.tmp 65)⟩,
                       ⟨(some 67), none, .bin .geq (.tmp 66) (.cst (.p (.int .i64 3)))⟩,
                       ⟨(some 68), none, .mov (.tmp 67)⟩,
                       ⟨(some 69), (some (68, true)), .mov (.tmp 0)⟩,
                       ⟨(some 70), (some (68, true)), .istr (.tmp 69) (.cst (.p (.int .i64 1)))⟩,
                       ⟨(some 71), (some (68, true)), .call 155 [(.tmp 70)]⟩,
                       ⟨(some 72), (some (68, true)), .bin .eql (.tmp 71) (.cst (.p (.int .u8 120)))⟩,
                       ⟨(some 73), none, .pick (.tmp 68) (.tmp 72) (.cst (.p (.bool false)))⟩,
                       ⟨(some 64), none, .mov (.tmp 73)⟩]) (
                     .cond (.tmp 64) (
                      .seq (
                       .region [
                         ⟨(some 1), none, .mov (.cst (.p (.int .i64 16)))⟩]) (
                       .region [
                         ⟨(some 74), none, .mov (.tmp 0)⟩,
                         ⟨(some 75), none, .slStr (.tmp 74) (some (.cst (.p (.int .i64 2)))) none⟩,
                         ⟨(some 0), none, .mov (.tmp 75)⟩])) (
                      .seq (
                       .region [
                         ⟨(some 1), none, .mov (.cst (.p (.int .i64 8)))⟩]) (
                       .region [
                         ⟨(some 38), none, .mov (.tmp 0)⟩,
                         ⟨(some 39), none, .slStr (.tmp 38) (some (.cst (.p (.int .i64 1)))) none⟩,
                         ⟨(some 0), none, .mov (.tmp 39)⟩]))))))))) (
               .skip)))) (
            .seq (
             .region [
               ⟨(some 24), none, .bad⟩,
               ⟨(some 6), none, .mov (.cst (.p (.int .u64 0)))⟩,
               ⟨(some 7), none, .mov (.tmp 24)⟩]) (
             .ret))))))) (
       .seq (
        .seq (
         .region [
           ⟨(some 76), none, .mov (.tmp 2)⟩,
           ⟨(some 77), none, .bin .eql (.tmp 76) (.cst (.p (.int .i64 0)))⟩]) (
         .cond (.tmp 77) (
          .region [
            ⟨(some 2), none, .mov (.cst (.p (.int .i64 64)))⟩]) (
          .seq (
           .region [
             ⟨(some 78), none, .mov (.tmp 2)⟩,
             ⟨(some 79), none, .bin .lss (.tmp 78) (.cst (.p (.int .i64 0)))⟩,
             ⟨(some 80), none, .mov (.tmp 79)⟩,
             ⟨(some 81), (some (80, false)), .mov (.tmp 2)⟩,
             ⟨(some 82), (some (80, false)), .bin .gtr (.tmp 81) (.cst (.p (.int .i64 64)))⟩,
             ⟨(some 83), none, .pick (.tmp 80) (.cst (.p (.bool true))) (.tmp 82)⟩]) (
           .cond (.tmp 83) (
            .seq (
             .region [
               ⟨(some 84), none, .bad⟩,
               ⟨(some 6), none, .mov (.cst (.p (.int .u64 0)))⟩,
               ⟨(some 7), none, .mov (.tmp 84)⟩]) (
             .ret)) (
            .skip))))) (
        .seq (
         .region [
           ⟨(some 10), none, .mov (.cst (.p (.int .u64 0)))⟩]) (
         .seq (
          .seq (
           .region [
             ⟨(some 85), none, .mov (.tmp 1)⟩]) (
           .block 2 (
            .seq (
             .region [
               ⟨(some 91), none, .bin .eql (.tmp 85) (.cst (.p (.int .i64 10)))⟩,
               ⟨(some 90), none, .mov (.tmp 91)⟩]) (
             .cond (.tmp 90) (
              .region [
                ⟨(some 10), none, .mov (.cst (.p (.int .u64 1844674407370955162)))⟩]) (
              .seq (
               .region [
                 ⟨(some 93), none, .bin .eql (.tmp 85) (.cst (.p (.int .i64 16)))⟩,
                 ⟨(some 92), none, .mov (.tmp 93)⟩]) (
               .cond (.tmp 92) (
                .region [
                  ⟨(some 10), none, .mov (.cst (.p (.int .u64 1152921504606846976)))⟩]) (
                .region [
                  ⟨(some 86), none, .mov (.tmp 1)⟩,
                  ⟨(some 87), none, .conv (.toInt .u64) (.tmp 86)⟩,
                  ⟨(some 88), none, .bin .quo (.cst (.p (.int .u64 18446744073709551615))) (.tmp 87)⟩,
                  ⟨(some 89), none, .bin .add (.tmp 88) (.cst (.p (.int .u64 1)))⟩,
                  ⟨(some 10), none, .mov (.tmp 89)⟩]))))))) (
          .seq (
           .region [
             ⟨(some 94), none, .mov (.tmp 2)⟩,
             ⟨(some 95), none, .conv (.toInt .u64) (.tmp 94)⟩,
             ⟨(some 96), none, .bin .shl (.cst (.p (.int .u64 1))) (.tmp 95)⟩,
             ⟨(some 97), none, .bin .sub (.tmp 96) (.cst (.p (.int .u64 1)))⟩,
             ⟨(some 11), none, .mov (.tmp 97)⟩]) (
           .seq (
            .region [
              ⟨(some 12), none, .mov (.cst (.p (.bool false)))⟩]) (
            .seq (
             .region [
               ⟨(some 13), none, .mov (.cst (.p (.int .u64 0)))⟩]) (
             .seq (
              .seq (
               .region [
                 ⟨(some 98), none, .mov (.tmp 0)⟩,
                 ⟨(some 99), none, .conv .s2b (.tmp 98)⟩,
                 ⟨(some 100), none, .len (.tmp 99)⟩,
                 ⟨(some 101), none, .mov (.cst (.p (.int .i64 0)))⟩]) (
               lf140_B0)) (
              .seq (
               .seq (
                .region [
                  ⟨(some 164), none, .mov (.tmp 12)⟩,
                  ⟨(some 165), none, .mov (.tmp 164)⟩,
                  ⟨(some 166), (some (165, true)), .mov (.tmp 9)⟩,
                  ⟨(some 167), (some (165, true)), .call 156 [(.tmp 166)]⟩,
                  ⟨(some 168), (some (165, true)), .un .not (.tmp 167)⟩,
                  ⟨(some 169), none, .pick (.tmp 165) (.tmp 168) (.cst (.p (.bool false)))⟩]) (
                .cond (.tmp 169) (
                 .seq (
                  .region [
                    ⟨(some 170), none, .bad⟩,
                    ⟨(some 6), none, .mov (.cst (.p (.int .u64 0)))⟩,
                    ⟨(some 7), none, .mov (.tmp 170)⟩]) (
                  .ret)) (
                 .skip))) (
               .seq (
                .region [
                  ⟨(some 171), none, .mov (.tmp 13)⟩,
                  ⟨(some 6), none, .mov (.tmp 171)⟩,
                  ⟨(some 7), none, .mov (.cst (.p .nili))⟩]) (
                .ret)))))))))))))))⟩
theorem low140 : lowFunc Tryz.prog gl0 140 = some lf140 := by kernel_rfl
def lf155 : LFunc := ⟨5, [(.slot 2)], (
  .seq (
   .region [
     ⟨(some 2), none, .mov (.cst (.p (.int .u8 0)))⟩]) (
   .seq (
    .region [
      ⟨(some 3), none, .mov (.tmp 0)⟩,
      ⟨(some 4), none, .bin .or (.tmp 3) (.cst (.p (.int .u8 32)))⟩,
      ⟨(some 2), none, .mov (.tmp 4)⟩]) (
    .ret)))⟩
theorem low155 : lowFunc Tryz.prog gl0 155 = some lf155 := by kernel_rfl
def lf19 : LFunc := ⟨8, [(.slot 4)], (
  .seq (
   .region [
     ⟨(some 4), none, .mov (.cst (.p (.bool false)))⟩]) (
   .seq (
    .region [
      ⟨(some 5), none, .mov (.tmp 0)⟩,
      ⟨(some 6), none, .mov (.tmp 1)⟩,
      ⟨(some 7), none, .call 76 [(.tmp 5), (.tmp 6)]⟩,
      ⟨(some 4), none, .mov (.tmp 7)⟩]) (
    .ret)))⟩
theorem low19 : lowFunc Tryz.prog gl0 19 = some lf19 := by kernel_rfl
def lf76_B0 : LCode := .block 0 (
  .loop (
   .seq (
    .seq (
     .region [
       ⟨(some 11), none, .mov (.tmp 5)⟩,
       ⟨(some 12), none, .mov (.tmp 0)⟩,
       ⟨(some 13), none, .len (.tmp 12)⟩,
       ⟨(some 14), none, .bin .lss (.tmp 11) (.tmp 13)⟩]) (
     .cond (.tmp 14) (
      .skip) (
      .exit 0))) (
    .seq (
     .block 1 (
      .seq (
       .regionD [
         ⟨(some 17), none, .mov (.tmp 0)⟩,
         ⟨(some 18), none, .mov (.tmp 5)⟩,
         ⟨(some 19), none, .iadr 1 (.tmp 17) (.tmp 18)⟩,
         ⟨(some 20), none, .load 1 false (.tmp 19)⟩,
         ⟨(some 21), none, .mov (.tmp 1)⟩,
         ⟨(some 22), none, .mov (.tmp 5)⟩,
         ⟨(some 23), none, .iadr 1 (.tmp 21) (.tmp 22)⟩,
         ⟨(some 24), none, .load 1 false (.tmp 23)⟩,
         ⟨(some 25), none, .bin .neq (.tmp 20) (.tmp 24)⟩]) (
       .cond (.tmp 25) (
        .seq (
         .region [
           ⟨(some 4), none, .mov (.cst (.p (.bool false)))⟩]) (
         .ret)) (
        .skip)))) (
     .region [
       ⟨(some 15), none, .mov (.tmp 5)⟩,
       ⟨(some 16), none, .bin .add (.tmp 15) (.cst (.p (.int .i64 1)))⟩,
       ⟨(some 5), none, .mov (.tmp 16)⟩]))))
def lf76 : LFunc := ⟨26, [(.slot 4)], (
  .seq (
   .region [
     ⟨(some 4), none, .mov (.cst (.p (.bool false)))⟩]) (
   .seq (
    .seq (
     .region [
       ⟨(some 6), none, .mov (.tmp 0)⟩,
       ⟨(some 7), none, .len (.tmp 6)⟩,
       ⟨(some 8), none, .mov (.tmp 1)⟩,
       ⟨(some 9), none, .len (.tmp 8)⟩,
       ⟨(some 10), none, .bin .neq (.tmp 7) (.tmp 9)⟩]) (
     .cond (.tmp 10) (
      .seq (
       .region [
         ⟨(some 4), none, .mov (.cst (.p (.bool false)))⟩]) (
       .ret)) (
      .skip))) (
    .seq (
     .seq (
      .region [
        ⟨(some 5), none, .mov (.cst (.p (.int .i64 0)))⟩]) (
      lf76_B0)) (
     .seq (
      .region [
        ⟨(some 4), none, .mov (.cst (.p (.bool true)))⟩]) (
      .ret)))))⟩
theorem low76 : lowFunc Tryz.prog gl0 76 = some lf76 := by kernel_rfl
def lf15 : LFunc := ⟨96, [(.slot 0)], (
  .seq (
   .region [
     ⟨(some 0), none, .mov (.cst (.p (.bool false)))⟩]) (
   .seq (
    .region [
      ⟨(some 11), none, .buildSl 1 40 (.p (.int .u64 0)) 2 [(0, (.cst (.p (.int .u64 0)))), (1, (.cst (.p (.int .u64 1))))]⟩,
      ⟨(some 12), none, .buildSl 1 40 (.p (.int .u64 0)) 2 [(0, (.cst (.p (.int .u64 0)))), (1, (.cst (.p (.int .u64 1))))]⟩,
      ⟨(some 13), none, .call 27 [(.tmp 11), (.tmp 12)]⟩,
      ⟨(some 10), none, .mov (.tmp 13)⟩,
      ⟨(some 14), none, .ext (.tmp 10) 0⟩,
      ⟨(some 15), none, .ext (.tmp 10) 1⟩,
      ⟨(some 1), none, .mov (.tmp 14)⟩,
      ⟨(some 2), none, .mov (.tmp 15)⟩]) (
    .seq (
     .region [
       ⟨(some 17), none, .buildSl 1 40 (.p (.int .u64 0)) 1 [(0, (.cst (.p (.int .u64 7))))]⟩,
       ⟨(some 18), none, .buildSl 1 40 (.p (.int .u64 0)) 1 [(0, (.cst (.p (.int .u64 2))))]⟩,
       ⟨(some 19), none, .call 34 [(.tmp 17), (.tmp 18)]⟩,
       ⟨(some 16), none, .mov (.tmp 19)⟩,
       ⟨(some 20), none, .ext (.tmp 16) 0⟩,
       ⟨(some 21), none, .ext (.tmp 16) 1⟩,
       ⟨(some 22), none, .ext (.tmp 16) 2⟩,
       ⟨(some 3), none, .mov (.tmp 20)⟩,
       ⟨(some 4), none, .mov (.tmp 21)⟩,
       ⟨(some 5), none, .mov (.tmp 22)⟩]) (
     .seq (
      .region [
        ⟨(some 24), none, .buildSl 1 40 (.p (.int .u64 0)) 1 [(0, (.cst (.p (.int .u64 1))))]⟩,
        ⟨(some 25), none, .buildSl 1 40 (.p (.int .u64 0)) 1 [(0, (.cst (.p (.int .u64 2))))]⟩,
        ⟨(some 26), none, .call 25 [(.tmp 24), (.tmp 25)]⟩,
        ⟨(some 23), none, .mov (.tmp 26)⟩,
        ⟨(some 27), none, .ext (.tmp 23) 0⟩,
        ⟨(some 28), none, .ext (.tmp 23) 1⟩,
        ⟨(some 6), none, .mov (.tmp 27)⟩,
        ⟨(some 7), none, .mov (.tmp 28)⟩]) (
      .seq (
       .region [
         ⟨(some 30), none, .call 16 [(.cst (.p (.str [48, 48, 49, 56, 52, 52, 54, 55, 52, 52, 48, 55, 51, 55, 48, 57, 53, 53, 49, 54, 49, 54])))]⟩,
         ⟨(some 29), none, .mov (.tmp 30)⟩,
         ⟨(some 31), none, .ext (.tmp 29) 0⟩,
         ⟨(some 32), none, .ext (.tmp 29) 1⟩,
         ⟨(some 8), none, .mov (.tmp 31)⟩,
         ⟨(some 9), none, .mov (.tmp 32)⟩]) (
       .seq (
        .region [
          ⟨(some 33), none, .mov (.tmp 2)⟩,
          ⟨(some 34), none, .bin .eql (.tmp 33) (.cst (.p (.int .i64 0)))⟩,
          ⟨(some 35), none, .mov (.tmp 34)⟩,
          ⟨(some 36), (some (35, true)), .mov (.tmp 1)⟩,
          ⟨(some 37), (some (35, true)), .buildSl 1 40 (.p (.int .u64 0)) 3 [(0, (.cst (.p (.int .u64 0)))), (1, (.cst (.p (.int .u64 0)))), (2, (.cst (.p (.int .u64 1))))]⟩,
          ⟨(some 38), (some (35, true)), .call 19 [(.tmp 36), (.tmp 37)]⟩,
          ⟨(some 39), none, .pick (.tmp 35) (.tmp 38) (.cst (.p (.bool false)))⟩,
          ⟨(some 40), none, .mov (.tmp 39)⟩,
          ⟨(some 41), (some (40, true)), .mov (.tmp 5)⟩,
          ⟨(some 42), (some (40, true)), .bin .eql (.tmp 41) (.cst (.p (.int .i64 0)))⟩,
          ⟨(some 43), none, .pick (.tmp 40) (.tmp 42) (.cst (.p (.bool false)))⟩,
          ⟨(some 44), none, .mov (.tmp 43)⟩,
          ⟨(some 45), (some (44, true)), .mov (.tmp 3)⟩,
          ⟨(some 46), (some (44, true)), .buildSl 1 40 (.p (.int .u64 0)) 1 [(0, (.cst (.p (.int .u64 3))))]⟩,
          ⟨(some 47), (some (44, true)), .call 19 [(.tmp 45), (.tmp 46)]⟩,
          ⟨(some 48), none, .pick (.tmp 44) (.tmp 47) (.cst (.p (.bool false)))⟩,
          ⟨(some 49), none, .mov (.tmp 48)⟩,
          ⟨(some 50), (some (49, true)), .mov (.tmp 4)⟩,
          ⟨(some 51), (some (49, true)), .buildSl 1 40 (.p (.int .u64 0)) 1 [(0, (.cst (.p (.int .u64 1))))]⟩,
          ⟨(some 52), (some (49, true)), .call 19 [(.tmp 50), (.tmp 51)]⟩,
          ⟨(some 53), none, .pick (.tmp 49) (.tmp 52) (.cst (.p (.bool false)))⟩,
          ⟨(some 54), none, .mov (.tmp 53)⟩,
          ⟨(some 55), (some (54, true)), .mov (.tmp 7)⟩,
          ⟨(some 56), (some (54, true)), .bin .eql (.tmp 55) (.cst (.p (.int .i64 1)))⟩,
          ⟨(some 57), none, .pick (.tmp 54) (.tmp 56) (.cst (.p (.bool false)))⟩,
          ⟨(some 58), none, .mov (.tmp 57)⟩,
          ⟨(some 59), (some (58, true)), .mov (.tmp 9)⟩,
          ⟨(some 60), (some (58, true)), .bin .eql (.tmp 59) (.cst (.p (.int .i64 0)))⟩,
          ⟨(some 61), none, .pick (.tmp 58) (.tmp 60) (.cst (.p (.bool false)))⟩,
          ⟨(some 62), none, .mov (.tmp 61)⟩,
          ⟨(some 63), (some (62, true)), .mov (.tmp 8)⟩,
          ⟨(some 64), (some (62, true)), .buildSl 1 40 (.p (.int .u64 0)) 2 [(0, (.cst (.p (.int .u64 0)))), (1, (.cst (.p (.int .u64 1))))]⟩,
          ⟨(some 65), (some (62, true)), .call 19 [(.tmp 63), (.tmp 64)]⟩,
          ⟨(some 66), none, .pick (.tmp 62) (.tmp 65) (.cst (.p (.bool false)))⟩,
          ⟨(some 67), none, .mov (.tmp 66)⟩,
          ⟨(some 68), (some (67, true)), .mov (.tmp 8)⟩,
          ⟨(some 69), (some (67, true)), .call 18 [(.tmp 68)]⟩,
          ⟨(some 70), (some (67, true)), .bin .eql (.tmp 69) (.cst (.p (.str [49, 56, 52, 52, 54, 55, 52, 52, 48, 55, 51, 55, 48, 57, 53, 53, 49, 54, 49, 54])))⟩,
          ⟨(some 71), none, .pick (.tmp 67) (.tmp 70) (.cst (.p (.bool false)))⟩,
          ⟨(some 72), none, .mov (.tmp 71)⟩,
          ⟨(some 73), (some (72, true)), .mov (.tmp 8)⟩,
          ⟨(some 74), (some (72, true)), .call 32 [(.tmp 73)]⟩,
          ⟨(some 75), (some (72, true)), .bin .eql (.tmp 74) (.cst (.p (.int .i64 65)))⟩,
          ⟨(some 76), none, .pick (.tmp 72) (.tmp 75) (.cst (.p (.bool false)))⟩,
          ⟨(some 77), none, .mov (.tmp 76)⟩,
          ⟨(some 78), (some (77, true)), .call 21 [(.cst (.tight []))]⟩,
          ⟨(some 79), none, .pick (.tmp 77) (.tmp 78) (.cst (.p (.bool false)))⟩,
          ⟨(some 80), none, .mov (.tmp 79)⟩,
          ⟨(some 81), (some (80, true)), .buildSl 1 40 (.p (.int .u64 0)) 1 [(0, (.cst (.p (.int .u64 0))))]⟩,
          ⟨(some 82), (some (80, true)), .call 21 [(.tmp 81)]⟩,
          ⟨(some 83), (some (80, true)), .un .not (.tmp 82)⟩,
          ⟨(some 84), none, .pick (.tmp 80) (.tmp 83) (.cst (.p (.bool false)))⟩,
          ⟨(some 85), none, .mov (.tmp 84)⟩,
          ⟨(some 86), (some (85, true)), .buildSl 1 40 (.p (.int .u64 0)) 1 [(0, (.cst (.p (.int .u64 1))))]⟩,
          ⟨(some 87), (some (85, true)), .buildSl 1 40 (.p (.int .u64 0)) 2 [(0, (.cst (.p (.int .u64 0)))), (1, (.cst (.p (.int .u64 1))))]⟩,
          ⟨(some 88), (some (85, true)), .call 29 [(.tmp 86), (.tmp 87)]⟩,
          ⟨(some 89), (some (85, true)), .bin .eql (.tmp 88) (.cst (.p (.int .i64 (-1))))⟩,
          ⟨(some 90), none, .pick (.tmp 85) (.tmp 89) (.cst (.p (.bool false)))⟩,
          ⟨(some 91), none, .mov (.tmp 90)⟩,
          ⟨(some 92), (some (91, true)), .call 40 [(.cst (.p (.int .i64 5)))]⟩,
          ⟨(some 93), (some (91, true)), .buildSl 1 40 (.p (.int .u64 0)) 1 [(0, (.cst (.p (.int .u64 5))))]⟩,
          ⟨(some 94), (some (91, true)), .call 19 [(.tmp 92), (.tmp 93)]⟩,
          ⟨(some 95), none, .pick (.tmp 91) (.tmp 94) (.cst (.p (.bool false)))⟩,
          ⟨(some 0), none, .mov (.tmp 95)⟩]) (
        .ret)))))))⟩
theorem low15 : lowFunc Tryz.prog gl0 15 = some lf15 := by kernel_rfl
def lf22_B0 : LCode := .block 0 (
  .loop (
   .seq (
    .seq (
     .region [
       ⟨(some 4), none, .mov (.tmp 3)⟩,
       ⟨(some 5), none, .mov (.tmp 0)⟩,
       ⟨(some 6), none, .len (.tmp 5)⟩,
       ⟨(some 7), none, .bin .lss (.tmp 4) (.tmp 6)⟩]) (
     .cond (.tmp 7) (
      .skip) (
      .exit 0))) (
    .seq (
     .block 1 (
      .seq (
       .region [
         ⟨(some 10), none, .mov (.tmp 0)⟩,
         ⟨(some 11), none, .mov (.tmp 3)⟩,
         ⟨(some 12), none, .iadr 1 (.tmp 10) (.tmp 11)⟩,
         ⟨(some 13), none, .load 1 false (.tmp 12)⟩,
         ⟨(some 14), none, .len (.tmp 13)⟩,
         ⟨(some 15), none, .bin .gtr (.tmp 14) (.cst (.p (.int .i64 70)))⟩]) (
       .cond (.tmp 15) (
        .seq (
         .region [
           ⟨(some 2), none, .mov (.cst (.p (.bool false)))⟩]) (
         .ret)) (
        .skip)))) (
     .region [
       ⟨(some 8), none, .mov (.tmp 3)⟩,
       ⟨(some 9), none, .bin .add (.tmp 8) (.cst (.p (.int .i64 1)))⟩,
       ⟨(some 3), none, .mov (.tmp 9)⟩]))))
def lf22 : LFunc := ⟨16, [(.slot 2)], (
  .seq (
   .region [
     ⟨(some 2), none, .mov (.cst (.p (.bool false)))⟩]) (
   .seq (
    .seq (
     .region [
       ⟨(some 3), none, .mov (.cst (.p (.int .i64 0)))⟩]) (
     lf22_B0)) (
    .seq (
     .region [
       ⟨(some 2), none, .mov (.cst (.p (.bool true)))⟩]) (
     .ret))))⟩
theorem low22 : lowFunc Tryz.prog gl0 22 = some lf22 := by kernel_rfl
end Go.Proofs.YtjjpfffclcofnaaGreatDoor
