/-
  The lowered code of linear, alike, law8 and the reference's sums, each equal to what the program's form lowers to. No conditions.
-/
import Derived.Test.YtepfpgnjpkcgmaaGreatAbsTwo
import Derived.Test.YtepfpgnjpkcgmaaGreatProg
import Derived.Test.YtepfpgnjpkcgmaaGreatNatA
import Derived.KernelRfl
set_option linter.unusedSimpArgs false
set_option linter.unnecessarySimpa false
set_option linter.unusedVariables false
set_option linter.constructorNameAsVariable false

/-
  The lowered code of the functions, as the program's form has it.
-/
namespace Go.Proofs.YtepfpgnjpkcgmaaGreat
open Go Go.Abs
def lf19_B0 : LCode := .block 0 (
  .loop (
   .seq (
    .region [
      ⟨(some 37), none, .bin .lss (.tmp 36) (.tmp 35)⟩]) (
    .seq (
     .cond (.tmp 37) (
      .skip) (
      .exit 0)) (
     .seq (
      .block 1 (
       .seq (
        .region [
          ⟨(some 38), none, .iadr 4 (.tmp 34) (.tmp 36)⟩,
          ⟨(some 39), none, .load 4 true (.tmp 38)⟩,
          ⟨(some 7), none, .newv 4 112 (.cst (.agg [(.p (.bool false)), (.tight []), (.tight []), (.p (.int .i64 0))]))⟩,
          ⟨none, none, .store 4 (.tmp 7) (.tmp 39)⟩]) (
        .seq (
         .seq (
          .region [
            ⟨(some 41), none, .fadr 0 (.tmp 7)⟩,
            ⟨(some 42), none, .load 3 true (.tmp 41)⟩,
            ⟨(some 43), none, .load 3 true (.tmp 3)⟩,
            ⟨(some 44), none, .call 90 [(.tmp 42), (.tmp 43)]⟩,
            ⟨(some 40), none, .mov (.tmp 44)⟩,
            ⟨(some 45), none, .ext (.tmp 40) 0⟩,
            ⟨(some 46), none, .ext (.tmp 40) 1⟩,
            ⟨(some 47), none, .fadr 0 (.tmp 7)⟩,
            ⟨none, none, .store 3 (.tmp 47) (.tmp 45)⟩,
            ⟨(some 5), none, .mov (.tmp 46)⟩]) (
          .seq (
           .region [
             ⟨(some 48), none, .mov (.tmp 5)⟩,
             ⟨(some 49), none, .bin .neq (.tmp 48) (.cst (.p (.int .i64 0)))⟩]) (
           .cond (.tmp 49) (
            .seq (
             .region [
               ⟨(some 50), none, .build (.agg [(.tight []), (.p (.bool false)), (.tight []), (.tight [])]) []⟩,
               ⟨(some 51), none, .mov (.tmp 5)⟩,
               ⟨none, none, .store 4 (.tmp 4) (.tmp 50)⟩,
               ⟨(some 5), none, .mov (.tmp 51)⟩]) (
             .ret)) (
            .skip)))) (
         .region [
           ⟨(some 52), none, .fadr 0 (.tmp 4)⟩,
           ⟨(some 53), none, .load 1 false (.tmp 52)⟩,
           ⟨(some 54), none, .load 4 true (.tmp 7)⟩,
           ⟨(some 55), none, .buildSl 4 112 (.agg [(.p (.bool false)), (.tight []), (.tight []), (.p (.int .i64 0))]) 1 [(0, (.tmp 54))]⟩,
           ⟨(some 56), none, .app 4 64 112 (.tmp 53) (.tmp 55)⟩,
           ⟨(some 57), none, .fadr 0 (.tmp 4)⟩,
           ⟨none, none, .store 1 (.tmp 57) (.tmp 56)⟩])))) (
      .region [
        ⟨(some 58), none, .bin .add (.tmp 36) (.cst (.p (.int .i64 1)))⟩,
        ⟨(some 36), none, .mov (.tmp 58)⟩])))))
def lf19 : LFunc := ⟨60,[.cell 4 4 true,.slot 5], .seq (.region [⟨some 2,none,.newv 4 27 (.tmp 0)⟩,⟨some 3,none,.newv 3 25 (.tmp 1)⟩,⟨some 4,none,.newv 4 27 (.cst (.agg [.tight [],.p (.bool false),.tight [],.tight []]))⟩,⟨some 5,none,.mov (.cst (.p (.int .i64 0)))⟩]) (.seq (.seq (.region [⟨some 8,none,.load 4 true (.tmp 2)⟩,⟨some 9,none,.call 30 [.tmp 8]⟩,⟨some 10,none,.un .not (.tmp 9)⟩,⟨some 11,none,.mov (.tmp 10)⟩,⟨some 12,some (11,false),.load 3 true (.tmp 3)⟩,⟨some 13,some (11,false),.call 89 [.tmp 12]⟩,⟨some 14,some (11,false),.un .not (.tmp 13)⟩,⟨some 15,none,.pick (.tmp 11) (.cst (.p (.bool true))) (.tmp 14)⟩]) (.cond (.tmp 15) (.seq (.region [⟨some 16,none,.load 4 true (.tmp 4)⟩,⟨none,none,.store 4 (.tmp 4) (.tmp 16)⟩,⟨some 5,none,.mov (.cst (.p (.int .i64 1)))⟩]) (.ret)) (.skip))) (.seq (.seq (.region [⟨some 18,none,.fadr 1 (.tmp 2)⟩,⟨some 19,none,.load 3 true (.tmp 18)⟩,⟨some 20,none,.load 3 true (.tmp 3)⟩,⟨some 21,none,.call 90 [.tmp 19,.tmp 20]⟩,⟨some 17,none,.mov (.tmp 21)⟩,⟨some 22,none,.ext (.tmp 17) 0⟩,⟨some 23,none,.ext (.tmp 17) 1⟩,⟨some 24,none,.fadr 1 (.tmp 4)⟩,⟨none,none,.store 3 (.tmp 24) (.tmp 22)⟩,⟨some 5,none,.mov (.tmp 23)⟩]) (.seq (.region [⟨some 25,none,.mov (.tmp 5)⟩,⟨some 26,none,.bin .neq (.tmp 25) (.cst (.p (.int .i64 0)))⟩]) (.cond (.tmp 26) (.seq (.region [⟨some 27,none,.build (.agg [.tight [],.p (.bool false),.tight [],.tight []]) []⟩,⟨some 28,none,.mov (.tmp 5)⟩,⟨none,none,.store 4 (.tmp 4) (.tmp 27)⟩,⟨some 5,none,.mov (.tmp 28)⟩]) (.ret)) (.skip)))) (.seq (.seq (.region [⟨some 29,none,.load 3 true (.tmp 3)⟩,⟨some 30,none,.call 87 [.tmp 29]⟩,⟨some 31,none,.bin .eql (.tmp 30) (.cst (.p (.int .i64 0)))⟩]) (.cond (.tmp 31) (.seq (.region [⟨some 32,none,.load 4 true (.tmp 4)⟩,⟨none,none,.store 4 (.tmp 4) (.tmp 32)⟩,⟨some 5,none,.mov (.cst (.p (.int .i64 0)))⟩]) (.ret)) (.skip))) (.seq (.seq (.region [⟨some 33,none,.fadr 0 (.tmp 2)⟩,⟨some 34,none,.load 1 false (.tmp 33)⟩,⟨some 35,none,.len (.tmp 34)⟩,⟨some 36,none,.mov (.cst (.p (.int
 .i64 0)))⟩]) (lf19_B0)) (.seq (.region [⟨some 59,none,.load 4 true (.tmp 4)⟩,⟨none,none,.store 4 (.tmp 4) (.tmp 59)⟩,⟨some 5,none,.mov (.cst (.p (.int .i64 0)))⟩]) (.ret))))))⟩
theorem low19 : lowFunc Tryz.prog gl0 19 = some lf19 := lowF (by kernel_rfl)
def lf23_B0 : LCode := .block 0 (
  .loop (
   .seq (
    .region [
      ⟨(some 27), none, .bin .lss (.tmp 26) (.tmp 25)⟩]) (
    .seq (
     .cond (.tmp 27) (
      .skip) (
      .exit 0)) (
     .seq (
      .block 1 (
       .seq (
        .region [
          ⟨(some 28), none, .iadr 4 (.tmp 24) (.tmp 26)⟩,
          ⟨(some 29), none, .load 4 true (.tmp 28)⟩,
          ⟨(some 8), none, .newv 4 112 (.cst (.agg [(.p (.bool false)), (.tight []), (.tight []), (.p (.int .i64 0))]))⟩,
          ⟨none, none, .store 4 (.tmp 8) (.tmp 29)⟩]) (
        .seq (
         .region [
           ⟨(some 30), none, .mov (.tmp 1)⟩,
           ⟨(some 31), none, .fadr 3 (.tmp 8)⟩,
           ⟨(some 32), none, .load 1 false (.tmp 31)⟩,
           ⟨(some 33), none, .callv (.tmp 30) [(.tmp 32)]⟩,
           ⟨(some 9), none, .newv 3 25 (.cst (.agg [(.p (.bool false)), (.tight []), (.tight [])]))⟩,
           ⟨none, none, .store 3 (.tmp 9) (.tmp 33)⟩]) (
         .seq (
          .seq (
           .region [
             ⟨(some 34), none, .load 3 true (.tmp 9)⟩,
             ⟨(some 35), none, .call 89 [(.tmp 34)]⟩,
             ⟨(some 36), none, .un .not (.tmp 35)⟩]) (
           .cond (.tmp 36) (
            .seq (
             .region [
               ⟨(some 37), none, .build (.agg [(.p (.bool false)), (.tight []), (.tight [])]) []⟩,
               ⟨none, none, .store 3 (.tmp 4) (.tmp 37)⟩,
               ⟨(some 5), none, .mov (.cst (.p (.int .i64 1)))⟩]) (
             .ret)) (
            .skip))) (
          .region [
            ⟨(some 38), none, .mov (.tmp 6)⟩,
            ⟨(some 39), none, .load 3 true (.tmp 9)⟩,
            ⟨(some 40), none, .buildSl 3 25 (.agg [(.p (.bool false)), (.tight []), (.tight [])]) 1 [(0, (.tmp 39))]⟩,
            ⟨(some 41), none, .app 3 56 25 (.tmp 38) (.tmp 40)⟩,
            ⟨(some 6), none, .mov (.tmp 41)⟩]))))) (
      .region [
        ⟨(some 42), none, .bin .add (.tmp 26) (.cst (.p (.int .i64 1)))⟩,
        ⟨(some 26), none, .mov (.tmp 42)⟩])))))
def lf23_B1 : LCode := .block 2 (
  .loop (
   .seq (
    .region [
      ⟨(some 50), none, .bin .lss (.tmp 49) (.tmp 48)⟩]) (
    .seq (
     .cond (.tmp 50) (
      .skip) (
      .exit 2)) (
     .seq (
      .block 3 (
       .seq (
        .region [
          ⟨(some 51), none, .mov (.tmp 49)⟩,
          ⟨(some 52), none, .iadr 4 (.tmp 47) (.tmp 49)⟩,
          ⟨(some 53), none, .load 4 true (.tmp 52)⟩,
          ⟨(some 12), none, .newv 4 112 (.cst (.agg [(.p (.bool false)), (.tight []), (.tight []), (.p (.int .i64 0))]))⟩,
          ⟨(some 11), none, .mov (.tmp 51)⟩,
          ⟨none, none, .store 4 (.tmp 12) (.tmp 53)⟩]) (
        .seq (
         .regionW [
           (⟨(some 55), none, .fadr 0 (.tmp 12)⟩, .s),
           (⟨(some 56), none, .load 3 true (.tmp 55)⟩, .s),
           (⟨(some 57), none, .mov (.tmp 6)⟩, .f),
           (⟨(some 58), none, .mov (.tmp 11)⟩, .f),
           (⟨(some 59), none, .iadr 3 (.tmp 57) (.tmp 58)⟩, .s),
           (⟨(some 60), none, .load 3 true (.tmp 59)⟩, .s),
           (⟨(some 61), none, .call 90 [(.tmp 56), (.tmp 60)]⟩, .t),
           (⟨(some 54), none, .mov (.tmp 61)⟩, .f),
           (⟨(some 62), none, .ext (.tmp 54) 0⟩, .f),
           (⟨(some 63), none, .ext (.tmp 54) 1⟩, .f),
           (⟨(some 13), none, .newv 3 25 (.cst (.agg [(.p (.bool false)), (.tight []), (.tight [])]))⟩, .s),
           (⟨none, none, .store 3 (.tmp 13) (.tmp 62)⟩, .f),
           (⟨(some 14), none, .mov (.tmp 63)⟩, .f)]) (
         .seq (
          .seq (
           .region [
             ⟨(some 64), none, .mov (.tmp 14)⟩,
             ⟨(some 65), none, .bin .neq (.tmp 64) (.cst (.p (.int .i64 0)))⟩]) (
           .cond (.tmp 65) (
            .seq (
             .region [
               ⟨(some 66), none, .build (.agg [(.p (.bool false)), (.tight []), (.tight [])]) []⟩,
               ⟨(some 67), none, .mov (.tmp 14)⟩,
               ⟨none, none, .store 3 (.tmp 4) (.tmp 66)⟩,
               ⟨(some 5), none, .mov (.tmp 67)⟩]) (
             .ret)) (
            .skip))) (
          .seq (
           .region [
             ⟨(some 69), none, .load 3 true (.tmp 10)⟩,
             ⟨(some 70), none, .load 3 true (.tmp 13)⟩,
             ⟨(some 71), none, .call 85 [(.tmp 69), (.tmp 70)]⟩,
             ⟨(some 68), none, .mov (.tmp 71)⟩,
             ⟨(some 72), none, .ext (.tmp 68) 0⟩,
             ⟨(some 73), none, .ext (.tmp 68) 1⟩,
             ⟨none, none, .store 3 (.tmp 10) (.tmp 72)⟩,
             ⟨(some 14), none, .mov (.tmp 73)⟩]) (
           .seq (
            .region [
              ⟨(some 74), none, .mov (.tmp 14)⟩,
              ⟨(some 75), none, .bin .neq (.tmp 74) (.cst (.p (.int .i64 0)))⟩]) (
            .cond (.tmp 75) (
             .seq (
              .region [
                ⟨(some 76), none, .build (.agg [(.p (.bool false)), (.tight []), (.tight [])]) []⟩,
                ⟨(some 77), none, .mov (.tmp 14)⟩,
                ⟨none, none, .store 3 (.tmp 4) (.tmp 76)⟩,
                ⟨(some 5), none, .mov (.tmp 77)⟩]) (
              .ret)) (
             .skip)))))))) (
      .region [
        ⟨(some 78), none, .bin .add (.tmp 49) (.cst (.p (.int .i64 1)))⟩,
        ⟨(some 49), none, .mov (.tmp 78)⟩])))))
def lf23 : LFunc := ⟨80,[.cell 4 3 true,.slot 5], .seq (.region [⟨some 2,none,.newv 4 27 (.tmp 0)⟩,⟨some 4,none,.newv 3 25 (.cst (.agg [.p (.bool false),.tight [],.tight []]))⟩,⟨some 5,none,.mov (.cst (.p (.int .i64 0)))⟩]) (.seq (.seq (.region [⟨some 15,none,.load 4 true (.tmp 2)⟩,⟨some 16,none,.call 30 [.tmp 15]⟩,⟨some 17,none,.un .not (.tmp 16)⟩,⟨some 18,none,.mov (.tmp 17)⟩,⟨some 19,some (18,false),.mov (.tmp 1)⟩,⟨some 20,some (18,false),.eqN false true (.tmp 19) (.cst (.p .nilf))⟩,⟨some 21,none,.pick (.tmp 18) (.cst (.p (.bool true))) (.tmp 20)⟩]) (.cond (.tmp 21) (.seq (.region [⟨some 22,none,.build (.agg [.p (.bool false),.tight [],.tight []]) []⟩,⟨none,none,.store 3 (.tmp 4) (.tmp 22)⟩,⟨some 5,none,.mov (.cst (.p (.int .i64 1)))⟩]) (.ret)) (.skip))) (.seq (.region [⟨some 6,none,.mov (.cst (.tight []))⟩]) (.seq (.seq (.region [⟨some 23,none,.fadr 0 (.tmp 2)⟩,⟨some 24,none,.load 1 false (.tmp 23)⟩,⟨some 25,none,.len (.tmp 24)⟩,⟨some 26,none,.mov (.cst (.p (.int .i64 0)))⟩]) (lf23_B0)) (.seq (.region [⟨some 43,none,.fadr 1 (.tmp 2)⟩,⟨some 44,none,.load 3 true (.tmp 43)⟩,⟨some 45,none,.call 86 [.tmp 44]⟩,⟨some 10,none,.newv 3 25 (.cst (.agg [.p (.bool false),.tight [],.tight []]))⟩,⟨none,none,.store 3 (.tmp 10) (.tmp 45)⟩]) (.seq (.seq (.region [⟨some 46,none,.fadr 0 (.tmp 2)⟩,⟨some 47,none,.load 1 false (.tmp 46)⟩,⟨some 48,none,.len (.tmp 47)⟩,⟨some 49,none,.mov (.cst (.p (.int .i64 0)))⟩]) (lf23_B1)) (.seq (.region [⟨some 79,none,.load 3 true (.tmp 10)⟩,⟨none,none,.store 3 (.tmp 4) (.tmp 79)⟩,⟨some 5,none,.mov (.cst (.p (.int .i64 0)))⟩]) (.ret)))))))⟩
theorem low23 : lowFunc Tryz.prog gl0 23 = some lf23 := lowF (by kernel_rfl)
def lf30_B0 : LCode := .block 0 (
  .loop (
   .seq (
    .region [
      ⟨(some 9), none, .bin .lss (.tmp 8) (.tmp 7)⟩]) (
    .seq (
     .cond (.tmp 9) (
      .skip) (
      .exit 0)) (
     .seq (
      .block 1 (
       .seq (
        .region [
          ⟨(some 10), none, .mov (.tmp 8)⟩,
          ⟨(some 11), none, .iadr 4 (.tmp 6) (.tmp 8)⟩,
          ⟨(some 12), none, .load 4 true (.tmp 11)⟩,
          ⟨(some 4), none, .newv 4 112 (.cst (.agg [(.p (.bool false)), (.tight []), (.tight []), (.p (.int .i64 0))]))⟩,
          ⟨(some 3), none, .mov (.tmp 10)⟩,
          ⟨none, none, .store 4 (.tmp 4) (.tmp 12)⟩]) (
        .seq (
         .regionD [
           ⟨(some 13), none, .fadr 3 (.tmp 4)⟩,
           ⟨(some 14), none, .load 1 false (.tmp 13)⟩,
           ⟨(some 15), none, .bin .lss (.tmp 14) (.cst (.p (.int .i64 0)))⟩,
           ⟨(some 16), none, .mov (.tmp 15)⟩,
           ⟨(some 17), (some (16, false)), .mov (.tmp 3)⟩,
           ⟨(some 18), (some (16, false)), .bin .gtr (.tmp 17) (.cst (.p (.int .i64 0)))⟩,
           ⟨(some 19), (some (16, false)), .mov (.tmp 18)⟩,
           ⟨(some 20), (some (19, true)), .fadr 3 (.tmp 4)⟩,
           ⟨(some 21), (some (19, true)), .load 1 false (.tmp 20)⟩,
           ⟨(some 22), (some (19, true)), .fadr 0 (.tmp 1)⟩,
           ⟨(some 23), (some (19, true)), .load 1 false (.tmp 22)⟩,
           ⟨(some 24), (some (19, true)), .mov (.tmp 3)⟩,
           ⟨(some 25), (some (19, true)), .bin .sub (.tmp 24) (.cst (.p (.int .i64 1)))⟩,
           ⟨(some 26), (some (19, true)), .iadr 4 (.tmp 23) (.tmp 25)⟩,
           ⟨(some 27), (some (19, true)), .fadr 3 (.tmp 26)⟩,
           ⟨(some 28), (some (19, true)), .load 1 false (.tmp 27)⟩,
           ⟨(some 29), (some (19, true)), .bin .leq (.tmp 21) (.tmp 28)⟩,
           ⟨(some 30), (some (16, false)), .pick (.tmp 19) (.tmp 29) (.cst (.p (.bool false)))⟩,
           ⟨(some 31), none, .pick (.tmp 16) (.cst (.p (.bool true))) (.tmp 30)⟩,
           ⟨(some 32), none, .mov (.tmp 31)⟩,
           ⟨(some 33), (some (32, false)), .fadr 0 (.tmp 4)⟩,
           ⟨(some 34), (some (32, false)), .load 3 true (.tmp 33)⟩,
           ⟨(some 35), (some (32, false)), .call 89 [(.tmp 34)]⟩,
           ⟨(some 36), (some (32, false)), .un .not (.tmp 35)⟩,
           ⟨(some 37), none, .pick (.tmp 32) (.cst (.p (.bool true))) (.tmp 36)⟩,
           ⟨(some 38), none, .mov (.tmp 37)⟩,
           ⟨(some 39), (some (38, false)), .fadr 0 (.tmp 4)⟩,
           ⟨(some 40), (some (38, false)), .load 3 true (.tmp 39)⟩,
           ⟨(some 41), (some (38, false)), .call 87 [(.tmp 40)]⟩,
           ⟨(some 42), (some (38, false)), .bin .eql (.tmp 41) (.cst (.p (.int .i64 0)))⟩,
           ⟨(some 43), none, .pick (.tmp 38) (.cst (.p (.bool true))) (.tmp 42)⟩]) (
         .cond (.tmp 43) (
          .seq (
           .region [
             ⟨(some 2), none, .mov (.cst (.p (.bool false)))⟩]) (
           .ret)) (
          .skip))))) (
      .region [
        ⟨(some 44), none, .bin .add (.tmp 8) (.cst (.p (.int .i64 1)))⟩,
        ⟨(some 8), none, .mov (.tmp 44)⟩])))))
def lf30 : LFunc := ⟨48,[.slot 2], .seq (.region [⟨some 1,none,.newv 4 27 (.tmp 0)⟩,⟨some 2,none,.mov (.cst (.p (.bool false)))⟩]) (.seq (.seq (.region [⟨some 5,none,.fadr 0 (.tmp 1)⟩,⟨some 6,none,.load 1 false (.tmp 5)⟩,⟨some 7,none,.len (.tmp 6)⟩,⟨some 8,none,.mov (.cst (.p (.int .i64 0)))⟩]) (lf30_B0)) (.seq (.region [⟨some 45,none,.fadr 1 (.tmp 1)⟩,⟨some 46,none,.load 3 true (.tmp 45)⟩,⟨some 47,none,.call 89 [.tmp 46]⟩,⟨some 2,none,.mov (.tmp 47)⟩]) (.ret)))⟩
theorem low30 : lowFunc Tryz.prog gl0 30 = some lf30 := lowF (by kernel_rfl)
def lf121_B0 : LCode := .block 0 (
  .loop (
   .seq (
    .region [
      ⟨(some 13), none, .bin .lss (.tmp 12) (.tmp 11)⟩]) (
    .seq (
     .cond (.tmp 13) (
      .skip) (
      .exit 0)) (
     .seq (
      .block 1 (
       .seq (
        .region [
          ⟨(some 14), none, .iadr 4 (.tmp 10) (.tmp 12)⟩,
          ⟨(some 15), none, .load 4 true (.tmp 14)⟩,
          ⟨(some 4), none, .newv 4 112 (.cst (.agg [(.p (.bool false)), (.tight []), (.tight []), (.p (.int .i64 0))]))⟩,
          ⟨none, none, .store 4 (.tmp 4) (.tmp 15)⟩]) (
        .regionW [
          (⟨(some 16), none, .fadr 0 (.tmp 2)⟩, .s),
          (⟨(some 17), none, .load 1 false (.tmp 16)⟩, .s),
          (⟨(some 18), none, .fadr 0 (.tmp 4)⟩, .f),
          (⟨(some 19), none, .load 3 true (.tmp 18)⟩, .f),
          (⟨(some 20), none, .call 86 [(.tmp 19)]⟩, .s),
          (⟨(some 21), none, .fadr 3 (.tmp 4)⟩, .s),
          (⟨(some 22), none, .load 1 false (.tmp 21)⟩, .s),
          (⟨(some 23), none, .build (.agg [(.p (.bool false)), (.tight []), (.tight []), (.p (.int .i64 0))]) [(0, 3, (.tmp 20)), (3, 1, (.tmp 22))]⟩, .f),
          (⟨(some 24), none, .buildSl 4 112 (.agg [(.p (.bool false)), (.tight []), (.tight []), (.p (.int .i64 0))]) 1 [(0, (.tmp 23))]⟩, .s),
          (⟨(some 25), none, .app 4 64 112 (.tmp 17) (.tmp 24)⟩, .f),
          (⟨(some 26), none, .fadr 0 (.tmp 2)⟩, .f),
          (⟨none, none, .store 1 (.tmp 26) (.tmp 25)⟩, .f)]))) (
      .region [
        ⟨(some 27), none, .bin .add (.tmp 12) (.cst (.p (.int .i64 1)))⟩,
        ⟨(some 12), none, .mov (.tmp 27)⟩])))))
def lf121 : LFunc := ⟨29,[.cell 2 4 true], .seq (.region [⟨some 1,none,.newv 4 27 (.tmp 0)⟩,⟨some 2,none,.newv 4 27 (.cst (.agg [.tight [],.p (.bool false),.tight [],.tight []]))⟩]) (.seq (.region [⟨some 5,none,.fadr 1 (.tmp 1)⟩,⟨some 6,none,.load 3 true (.tmp 5)⟩,⟨some 7,none,.call 86 [.tmp 6]⟩,⟨some 8,none,.fadr 1 (.tmp 2)⟩,⟨none,none,.store 3 (.tmp 8) (.tmp 7)⟩]) (.seq (.seq (.region [⟨some 9,none,.fadr 0 (.tmp 1)⟩,⟨some 10,none,.load 1 false (.tmp 9)⟩,⟨some 11,none,.len (.tmp 10)⟩,⟨some 12,none,.mov (.cst (.p (.int .i64 0)))⟩]) (lf121_B0)) (.seq (.region [⟨some 28,none,.load 4 true (.tmp 2)⟩,⟨none,none,.store 4 (.tmp 2) (.tmp 28)⟩]) (.ret))))⟩
theorem low121 : lowFunc Tryz.prog gl0 121 = some lf121 := lowF (by kernel_rfl)
def lf34 : LFunc := ⟨17,[.slot 4], .seq (.region [⟨some 2,none,.newv 4 27 (.tmp 0)⟩,⟨some 3,none,.newv 4 27 (.tmp 1)⟩,⟨some 4,none,.mov (.cst (.p (.bool false)))⟩]) (.seq (.region [⟨some 5,none,.fadr 1 (.tmp 2)⟩,⟨some 6,none,.load 3 true (.tmp 5)⟩,⟨some 7,none,.fadr 1 (.tmp 3)⟩,⟨some 8,none,.load 3 true (.tmp 7)⟩,⟨some 9,none,.call 102 [.tmp 6,.tmp 8]⟩,⟨some 10,none,.mov (.tmp 9)⟩,⟨some 11,some (10,true),.fadr 0 (.tmp 2)⟩,⟨some 12,some (10,true),.load 1 false (.tmp 11)⟩,⟨some 13,some (10,true),.fadr 0 (.tmp 3)⟩,⟨some 14,some (10,true),.load 1 false (.tmp 13)⟩,⟨some 15,some (10,true),.call 103 [.tmp 12,.tmp 14,.cst (.p (.clo 104 []))]⟩,⟨some 16,none,.pick (.tmp 10) (.tmp 15) (.cst (.p (.bool false)))⟩,⟨some 4,none,.mov (.tmp 16)⟩]) (.ret))⟩
theorem low34 : lowFunc Tryz.prog gl0 34 = some lf34 := lowF (by kernel_rfl)
def lf86 : LFunc := ⟨12,[.cell 2 3 true], .seq (.region [⟨some 1,none,.newv 3 25 (.tmp 0)⟩,⟨some 2,none,.newv 3 25 (.cst (.agg [.p (.bool false),.tight [],.tight []]))⟩]) (.seq (.regionW [(⟨some 3,none,.fadr 0 (.tmp 1)⟩,.s),(⟨some 4,none,.load 1 false (.tmp 3)⟩,.s),(⟨some 5,none,.fadr 1 (.tmp 1)⟩,.f),(⟨some 6,none,.load 1 false (.tmp 5)⟩,.f),(⟨some 7,none,.call 149 [.tmp 6]⟩,.s),(⟨some 8,none,.fadr 2 (.tmp 1)⟩,.s),(⟨some 9,none,.load 1 false (.tmp 8)⟩,.s),(⟨some 10,none,.call 149 [.tmp 9]⟩,.s),(⟨some 11,none,.build (.agg [.p (.bool false),.tight [],.tight []]) [(0,1,(.tmp 4)),(1,1,(.tmp 7)),(2,1,(.tmp 10))]⟩,.f),(⟨none,none,.store 3 (.tmp 2) (.tmp 11)⟩,.f)]) (.ret))⟩
theorem low86 : lowFunc Tryz.prog gl0 86 = some lf86 := lowF (by kernel_rfl)
def lf102 : LFunc := ⟨24,[.slot 4], .seq (.region [⟨some 2,none,.newv 3 25 (.tmp 0)⟩,⟨some 3,none,.newv 3 25 (.tmp 1)⟩,⟨some 4,none,.mov (.cst (.p (.bool false)))⟩]) (.seq (.region [⟨some 5,none,.fadr 0 (.tmp 2)⟩,⟨some 6,none,.load 1 false (.tmp 5)⟩,⟨some 7,none,.fadr 0 (.tmp 3)⟩,⟨some 8,none,.load 1 false (.tmp 7)⟩,⟨some 9,none,.eqB false (.tmp 6) (.tmp 8)⟩,⟨some 10,none,.mov (.tmp 9)⟩,⟨some 11,some (10,true),.fadr 1 (.tmp 2)⟩,⟨some 12,some (10,true),.load 1 false (.tmp 11)⟩,⟨some 13,some (10,true),.fadr 1 (.tmp 3)⟩,⟨some 14,some (10,true),.load 1 false (.tmp 13)⟩,⟨some 15,some (10,true),.call 165 [.tmp 12,.tmp 14]⟩,⟨some 16,none,.pick (.tmp 10) (.tmp 15) (.cst (.p (.bool false)))⟩,⟨some 17,none,.mov (.tmp 16)⟩,⟨some 18,some (17,true),.fadr 2 (.tmp 2)⟩,⟨some 19,some (17,true),.load 1 false (.tmp 18)⟩,⟨some 20,some (17,true),.fadr 2 (.tmp 3)⟩,⟨some 21,some (17,true),.load 1 false (.tmp 20)⟩,⟨some 22,some (17,true),.call 165 [.tmp 19,.tmp 21]⟩,⟨some 23,none,.pick (.tmp 17) (.tmp 22) (.cst (.p (.bool false)))⟩,⟨some 4,none,.mov (.tmp 23)⟩]) (.ret))⟩
theorem low102 : lowFunc Tryz.prog gl0 102 = some lf102 := lowF (by kernel_rfl)
def lf104 : LFunc := ⟨17,[.slot 4], .seq (.region [⟨some 2,none,.newv 4 112 (.tmp 0)⟩,⟨some 3,none,.newv 4 112 (.tmp 1)⟩,⟨some 4,none,.mov (.cst (.p (.bool false)))⟩]) (.seq (.region [⟨some 5,none,.fadr 3 (.tmp 2)⟩,⟨some 6,none,.load 1 false (.tmp 5)⟩,⟨some 7,none,.fadr 3 (.tmp 3)⟩,⟨some 8,none,.load 1 false (.tmp 7)⟩,⟨some 9,none,.bin .eql (.tmp 6) (.tmp 8)⟩,⟨some 10,none,.mov (.tmp 9)⟩,⟨some 11,some (10,true),.fadr 0 (.tmp 2)⟩,⟨some 12,some (10,true),.load 3 true (.tmp 11)⟩,⟨some 13,some (10,true),.fadr 0 (.tmp 3)⟩,⟨some 14,some (10,true),.load 3 true (.tmp 13)⟩,⟨some 15,some (10,true),.call 102 [.tmp 12,.tmp 14]⟩,⟨some 16,none,.pick (.tmp 10) (.tmp 15) (.cst (.p (.bool false)))⟩,⟨some 4,none,.mov (.tmp 16)⟩]) (.ret))⟩
theorem low104 : lowFunc Tryz.prog gl0 104 = some lf104 := lowF (by kernel_rfl)
def lf165_B0 : LCode := .block 0 (
  .loop (
   .seq (
    .region [
      ⟨(some 14), none, .bin .lss (.tmp 13) (.tmp 12)⟩]) (
    .seq (
     .cond (.tmp 14) (
      .skip) (
      .exit 0)) (
     .seq (
      .block 1 (
       .seq (
        .region [
          ⟨(some 15), none, .mov (.tmp 13)⟩,
          ⟨(some 5), none, .mov (.tmp 15)⟩]) (
        .seq (
         .regionD [
           ⟨(some 16), none, .mov (.tmp 0)⟩,
           ⟨(some 17), none, .mov (.tmp 5)⟩,
           ⟨(some 18), none, .iadr 1 (.tmp 16) (.tmp 17)⟩,
           ⟨(some 19), none, .load 1 false (.tmp 18)⟩,
           ⟨(some 20), none, .mov (.tmp 1)⟩,
           ⟨(some 21), none, .mov (.tmp 5)⟩,
           ⟨(some 22), none, .iadr 1 (.tmp 20) (.tmp 21)⟩,
           ⟨(some 23), none, .load 1 false (.tmp 22)⟩,
           ⟨(some 24), none, .bin .neq (.tmp 19) (.tmp 23)⟩]) (
         .cond (.tmp 24) (
          .seq (
           .region [
             ⟨(some 4), none, .mov (.cst (.p (.bool false)))⟩]) (
           .ret)) (
          .skip))))) (
      .region [
        ⟨(some 25), none, .bin .add (.tmp 13) (.cst (.p (.int .i64 1)))⟩,
        ⟨(some 13), none, .mov (.tmp 25)⟩])))))
def lf165 : LFunc := ⟨26,[.slot 4], .seq (.region [⟨some 4,none,.mov (.cst (.p (.bool false)))⟩]) (.seq (.seq (.region [⟨some 6,none,.mov (.tmp 0)⟩,⟨some 7,none,.len (.tmp 6)⟩,⟨some 8,none,.mov (.tmp 1)⟩,⟨some 9,none,.len (.tmp 8)⟩,⟨some 10,none,.bin .neq (.tmp 7) (.tmp 9)⟩]) (.cond (.tmp 10) (.seq (.region [⟨some 4,none,.mov (.cst (.p (.bool false)))⟩]) (.ret)) (.skip))) (.seq (.seq (.region [⟨some 11,none,.mov (.tmp 0)⟩,⟨some 12,none,.len (.tmp 11)⟩,⟨some 13,none,.mov (.cst (.p (.int .i64 0)))⟩]) (lf165_B0)) (.seq (.region [⟨some 4,none,.mov (.cst (.p (.bool true)))⟩]) (.ret))))⟩
theorem low165 : lowFunc Tryz.prog gl0 165 = some lf165 := lowF (by kernel_rfl)
def lf103_B0 : LCode := .block 0 (
  .loop (
   .seq (
    .region [
      ⟨(some 18), none, .bin .lss (.tmp 17) (.tmp 16)⟩]) (
    .seq (
     .cond (.tmp 18) (
      .skip) (
      .exit 0)) (
     .seq (
      .block 1 (
       .seq (
        .region [
          ⟨(some 19), none, .mov (.tmp 17)⟩,
          ⟨(some 20), none, .iadr 4 (.tmp 15) (.tmp 17)⟩,
          ⟨(some 21), none, .load 4 true (.tmp 20)⟩,
          ⟨(some 8), none, .newv 4 112 (.cst (.agg [(.p (.bool false)), (.tight []), (.tight []), (.p (.int .i64 0))]))⟩,
          ⟨(some 7), none, .mov (.tmp 19)⟩,
          ⟨none, none, .store 4 (.tmp 8) (.tmp 21)⟩]) (
        .seq (
         .region [
           ⟨(some 22), none, .mov (.tmp 1)⟩,
           ⟨(some 23), none, .mov (.tmp 7)⟩,
           ⟨(some 24), none, .iadr 4 (.tmp 22) (.tmp 23)⟩,
           ⟨(some 25), none, .load 4 true (.tmp 24)⟩,
           ⟨(some 9), none, .newv 4 112 (.cst (.agg [(.p (.bool false)), (.tight []), (.tight []), (.p (.int .i64 0))]))⟩,
           ⟨none, none, .store 4 (.tmp 9) (.tmp 25)⟩]) (
         .seq (
          .region [
            ⟨(some 26), none, .mov (.tmp 2)⟩,
            ⟨(some 27), none, .load 4 true (.tmp 8)⟩,
            ⟨(some 28), none, .load 4 true (.tmp 9)⟩,
            ⟨(some 29), none, .callv (.tmp 26) [(.tmp 27), (.tmp 28)]⟩,
            ⟨(some 30), none, .un .not (.tmp 29)⟩]) (
          .cond (.tmp 30) (
           .seq (
            .region [
              ⟨(some 6), none, .mov (.cst (.p (.bool false)))⟩]) (
            .ret)) (
           .skip)))))) (
      .region [
        ⟨(some 31), none, .bin .add (.tmp 17) (.cst (.p (.int .i64 1)))⟩,
        ⟨(some 17), none, .mov (.tmp 31)⟩])))))
def lf103 : LFunc := ⟨32,[.slot 6], .seq (.region [⟨some 6,none,.mov (.cst (.p (.bool false)))⟩]) (.seq (.seq (.region [⟨some 10,none,.mov (.tmp 0)⟩,⟨some 11,none,.len (.tmp 10)⟩,⟨some 12,none,.mov (.tmp 1)⟩,⟨some 13,none,.len (.tmp 12)⟩,⟨some 14,none,.bin .neq (.tmp 11) (.tmp 13)⟩]) (.cond (.tmp 14) (.seq (.region [⟨some 6,none,.mov (.cst (.p (.bool false)))⟩]) (.ret)) (.skip))) (.seq (.seq (.region [⟨some 15,none,.mov (.tmp 0)⟩,⟨some 16,none,.len (.tmp 15)⟩,⟨some 17,none,.mov (.cst (.p (.int .i64 0)))⟩]) (lf103_B0)) (.seq (.region [⟨some 6,none,.mov (.cst (.p (.bool true)))⟩]) (.ret))))⟩
theorem low103 : lowFunc Tryz.prog gl0 103 = some lf103 := lowF (by kernel_rfl)
def lf13_B0 : LCode := .block 0 (
  .loop (
   .seq (
    .seq (
     .region [
       ⟨(some 4), none, .mov (.tmp 3)⟩,
       ⟨(some 5), none, .fadr 0 (.tmp 1)⟩,
       ⟨(some 6), none, .load 1 false (.tmp 5)⟩,
       ⟨(some 7), none, .len (.tmp 6)⟩,
       ⟨(some 8), none, .bin .lss (.tmp 4) (.tmp 7)⟩,
       ⟨(some 9), none, .mov (.tmp 8)⟩,
       ⟨(some 10), (some (9, true)), .mov (.tmp 3)⟩,
       ⟨(some 11), (some (9, true)), .bin .lss (.tmp 10) (.cst (.p (.int .i64 12)))⟩,
       ⟨(some 12), none, .pick (.tmp 9) (.tmp 11) (.cst (.p (.bool false)))⟩]) (
     .cond (.tmp 12) (
      .skip) (
      .exit 0))) (
    .seq (
     .block 1 (
      .seq (
       .region [
         ⟨(some 15), none, .fadr 0 (.tmp 1)⟩,
         ⟨(some 16), none, .load 1 false (.tmp 15)⟩,
         ⟨(some 17), none, .mov (.tmp 3)⟩,
         ⟨(some 18), none, .iadr 4 (.tmp 16) (.tmp 17)⟩,
         ⟨(some 19), none, .fadr 0 (.tmp 18)⟩,
         ⟨(some 20), none, .load 3 true (.tmp 19)⟩,
         ⟨(some 21), none, .call 14 [(.tmp 20)]⟩,
         ⟨(some 22), none, .un .not (.tmp 21)⟩]) (
       .cond (.tmp 22) (
        .seq (
         .region [
           ⟨(some 2), none, .mov (.cst (.p (.bool false)))⟩]) (
         .ret)) (
        .skip)))) (
     .region [
       ⟨(some 13), none, .mov (.tmp 3)⟩,
       ⟨(some 14), none, .bin .add (.tmp 13) (.cst (.p (.int .i64 1)))⟩,
       ⟨(some 3), none, .mov (.tmp 14)⟩]))))
def lf13 : LFunc := ⟨32,[.slot 2], .seq (.region [⟨some 1,none,.newv 4 27 (.tmp 0)⟩,⟨some 2,none,.mov (.cst (.p (.bool false)))⟩]) (.seq (.seq (.region [⟨some 3,none,.mov (.cst (.p (.int .i64 0)))⟩]) (lf13_B0)) (.seq (.region [⟨some 23,none,.fadr 0 (.tmp 1)⟩,⟨some 24,none,.load 1 false (.tmp 23)⟩,⟨some 25,none,.len (.tmp 24)⟩,⟨some 26,none,.bin .leq (.tmp 25) (.cst (.p (.int .i64 10)))⟩,⟨some 27,none,.mov (.tmp 26)⟩,⟨some 28,some (27,true),.fadr 1 (.tmp 1)⟩,⟨some 29,some (27,true),.load 3 true (.tmp 28)⟩,⟨some 30,some (27,true),.call 14 [.tmp 29]⟩,⟨some 31,none,.pick (.tmp 27) (.tmp 30) (.cst (.p (.bool false)))⟩,⟨some 2,none,.mov (.tmp 31)⟩]) (.ret)))⟩
theorem low13 : lowFunc Tryz.prog gl0 13 = some lf13 := lowF (by kernel_rfl)
def lf14 : LFunc := ⟨13,[.slot 2], .seq (.region [⟨some 1,none,.newv 3 25 (.tmp 0)⟩,⟨some 2,none,.mov (.cst (.p (.bool false)))⟩]) (.seq (.region [⟨some 3,none,.fadr 1 (.tmp 1)⟩,⟨some 4,none,.load 1 false (.tmp 3)⟩,⟨some 5,none,.len (.tmp 4)⟩,⟨some 6,none,.bin .leq (.tmp 5) (.cst (.p (.int .i64 8)))⟩,⟨some 7,none,.mov (.tmp 6)⟩,⟨some 8,some (7,true),.fadr 2 (.tmp 1)⟩,⟨some 9,some (7,true),.load 1 false (.tmp 8)⟩,⟨some 10,some (7,true),.len (.tmp 9)⟩,⟨some 11,some (7,true),.bin .leq (.tmp 10) (.cst (.p (.int .i64 8)))⟩,⟨some 12,none,.pick (.tmp 7) (.tmp 11) (.cst (.p (.bool false)))⟩,⟨some 2,none,.mov (.tmp 12)⟩]) (.ret))⟩
theorem low14 : lowFunc Tryz.prog gl0 14 = some lf14 := lowF (by kernel_rfl)
end Go.Proofs.YtepfpgnjpkcgmaaGreat

/-
  The lowered code of the functions, as the program's form has it.
-/
namespace Go.Proofs.YtepfpgnjpkcgmaaGreat
open Go Go.Abs
def lf25_B0 : LCode := .block 0 (
  .loop (
   .seq (
    .seq (
     .region [
       ⟨(some 6), none, .mov (.tmp 5)⟩,
       ⟨(some 7), none, .mov (.tmp 0)⟩,
       ⟨(some 8), none, .len (.tmp 7)⟩,
       ⟨(some 9), none, .bin .lss (.tmp 6) (.tmp 8)⟩]) (
     .cond (.tmp 9) (
      .skip) (
      .exit 0))) (
    .seq (
     .block 1 (
      .seq (
       .region [
         ⟨(some 12), none, .mov (.tmp 0)⟩,
         ⟨(some 13), none, .mov (.tmp 5)⟩,
         ⟨(some 14), none, .iadr 4 (.tmp 12) (.tmp 13)⟩,
         ⟨(some 15), none, .fadr 0 (.tmp 14)⟩,
         ⟨(some 16), none, .load 1 false (.tmp 15)⟩,
         ⟨(some 17), none, .mov (.tmp 1)⟩,
         ⟨(some 18), none, .bin .eql (.tmp 16) (.tmp 17)⟩]) (
       .cond (.tmp 18) (
        .seq (
         .region [
           ⟨(some 19), none, .mov (.tmp 0)⟩,
           ⟨(some 20), none, .mov (.tmp 5)⟩,
           ⟨(some 21), none, .iadr 4 (.tmp 19) (.tmp 20)⟩,
           ⟨(some 22), none, .fadr 1 (.tmp 21)⟩,
           ⟨(some 23), none, .load 3 true (.tmp 22)⟩,
           ⟨none, none, .store 3 (.tmp 4) (.tmp 23)⟩]) (
         .ret)) (
        .skip)))) (
     .region [
       ⟨(some 10), none, .mov (.tmp 5)⟩,
       ⟨(some 11), none, .bin .add (.tmp 10) (.cst (.p (.int .i64 1)))⟩,
       ⟨(some 5), none, .mov (.tmp 11)⟩]))))
def lf25 : LFunc := ⟨25,[.cell 4 3 true], .seq (.region [⟨some 4,none,.newv 3 25 (.cst (.agg [.p (.bool false),.tight [],.tight []]))⟩]) (.seq (.seq (.region [⟨some 5,none,.mov (.cst (.p (.int .i64 0)))⟩]) (lf25_B0)) (.seq (.region [⟨some 24,none,.call 91 []⟩,⟨none,none,.store 3 (.tmp 4) (.tmp 24)⟩]) (.ret)))⟩
theorem low25 : lowFunc Tryz.prog gl0 25 = some lf25 := lowF (by kernel_rfl)
def lf27_B0 : LCode := .block 0 (
  .loop (
   .seq (
    .seq (
     .region [
       ⟨(some 15), none, .mov (.tmp 6)⟩,
       ⟨(some 16), none, .fadr 0 (.tmp 2)⟩,
       ⟨(some 17), none, .load 1 false (.tmp 16)⟩,
       ⟨(some 18), none, .len (.tmp 17)⟩,
       ⟨(some 19), none, .bin .lss (.tmp 15) (.tmp 18)⟩]) (
     .cond (.tmp 19) (
      .skip) (
      .exit 0))) (
    .seq (
     .block 1 (
      .seq (
       .region [
         ⟨(some 22), none, .mov (.tmp 1)⟩,
         ⟨(some 23), none, .fadr 0 (.tmp 2)⟩,
         ⟨(some 24), none, .load 1 false (.tmp 23)⟩,
         ⟨(some 25), none, .mov (.tmp 6)⟩,
         ⟨(some 26), none, .iadr 4 (.tmp 24) (.tmp 25)⟩,
         ⟨(some 27), none, .fadr 3 (.tmp 26)⟩,
         ⟨(some 28), none, .load 1 false (.tmp 27)⟩,
         ⟨(some 29), none, .call 25 [(.tmp 22), (.tmp 28)]⟩,
         ⟨(some 30), none, .call 50 [(.tmp 29)]⟩,
         ⟨(some 31), none, .un .not (.tmp 30)⟩]) (
       .cond (.tmp 31) (
        .seq (
         .region [
           ⟨(some 32), none, .build (.agg [(.p (.bool false)), (.tight []), (.tight [])]) []⟩,
           ⟨none, none, .store 3 (.tmp 4) (.tmp 32)⟩,
           ⟨(some 5), none, .mov (.cst (.p (.int .i64 1)))⟩]) (
         .ret)) (
        .skip)))) (
     .region [
       ⟨(some 20), none, .mov (.tmp 6)⟩,
       ⟨(some 21), none, .bin .add (.tmp 20) (.cst (.p (.int .i64 1)))⟩,
       ⟨(some 6), none, .mov (.tmp 21)⟩]))))
def lf27_B1 : LCode := .block 2 (
  .loop (
   .seq (
    .seq (
     .region [
       ⟨(some 35), none, .mov (.tmp 8)⟩,
       ⟨(some 36), none, .fadr 0 (.tmp 2)⟩,
       ⟨(some 37), none, .load 1 false (.tmp 36)⟩,
       ⟨(some 38), none, .len (.tmp 37)⟩,
       ⟨(some 39), none, .bin .lss (.tmp 35) (.tmp 38)⟩]) (
     .cond (.tmp 39) (
      .skip) (
      .exit 2))) (
    .seq (
     .block 3 (
      .seq (
       .regionW [
         (⟨(some 43), none, .fadr 0 (.tmp 2)⟩, .s),
         (⟨(some 44), none, .load 1 false (.tmp 43)⟩, .s),
         (⟨(some 45), none, .mov (.tmp 8)⟩, .f),
         (⟨(some 46), none, .iadr 4 (.tmp 44) (.tmp 45)⟩, .s),
         (⟨(some 47), none, .fadr 0 (.tmp 46)⟩, .s),
         (⟨(some 48), none, .load 3 true (.tmp 47)⟩, .s),
         (⟨(some 49), none, .mov (.tmp 1)⟩, .f),
         (⟨(some 50), none, .fadr 0 (.tmp 2)⟩, .s),
         (⟨(some 51), none, .load 1 false (.tmp 50)⟩, .s),
         (⟨(some 52), none, .mov (.tmp 8)⟩, .f),
         (⟨(some 53), none, .iadr 4 (.tmp 51) (.tmp 52)⟩, .s),
         (⟨(some 54), none, .fadr 3 (.tmp 53)⟩, .s),
         (⟨(some 55), none, .load 1 false (.tmp 54)⟩, .s),
         (⟨(some 56), none, .call 25 [(.tmp 49), (.tmp 55)]⟩, .t),
         (⟨(some 57), none, .call 92 [(.tmp 48), (.tmp 56)]⟩, .t),
         (⟨(some 42), none, .mov (.tmp 57)⟩, .f),
         (⟨(some 58), none, .ext (.tmp 42) 0⟩, .f),
         (⟨(some 59), none, .ext (.tmp 42) 1⟩, .f),
         (⟨(some 9), none, .newv 3 25 (.cst (.agg [(.p (.bool false)), (.tight []), (.tight [])]))⟩, .s),
         (⟨none, none, .store 3 (.tmp 9) (.tmp 58)⟩, .f),
         (⟨(some 10), none, .mov (.tmp 59)⟩, .f)]) (
       .seq (
        .seq (
         .region [
           ⟨(some 60), none, .mov (.tmp 10)⟩,
           ⟨(some 61), none, .bin .eql (.tmp 60) (.cst (.p (.int .i64 0)))⟩]) (
         .cond (.tmp 61) (
          .region [
            ⟨(some 63), none, .load 3 true (.tmp 7)⟩,
            ⟨(some 64), none, .load 3 true (.tmp 9)⟩,
            ⟨(some 65), none, .call 99 [(.tmp 63), (.tmp 64)]⟩,
            ⟨(some 62), none, .mov (.tmp 65)⟩,
            ⟨(some 66), none, .ext (.tmp 62) 0⟩,
            ⟨(some 67), none, .ext (.tmp 62) 1⟩,
            ⟨none, none, .store 3 (.tmp 7) (.tmp 66)⟩,
            ⟨(some 10), none, .mov (.tmp 67)⟩]) (
          .skip))) (
        .seq (
         .region [
           ⟨(some 68), none, .mov (.tmp 10)⟩,
           ⟨(some 69), none, .bin .neq (.tmp 68) (.cst (.p (.int .i64 0)))⟩]) (
         .cond (.tmp 69) (
          .seq (
           .region [
             ⟨(some 70), none, .build (.agg [(.p (.bool false)), (.tight []), (.tight [])]) []⟩,
             ⟨(some 71), none, .mov (.tmp 10)⟩,
             ⟨none, none, .store 3 (.tmp 4) (.tmp 70)⟩,
             ⟨(some 5), none, .mov (.tmp 71)⟩]) (
           .ret)) (
          .skip)))))) (
     .region [
       ⟨(some 40), none, .mov (.tmp 8)⟩,
       ⟨(some 41), none, .bin .add (.tmp 40) (.cst (.p (.int .i64 1)))⟩,
       ⟨(some 8), none, .mov (.tmp 41)⟩]))))
def lf27 : LFunc := ⟨73,[.cell 4 3 true,.slot 5], .seq (.region [⟨some 2,none,.newv 4 27 (.tmp 0)⟩,⟨some 4,none,.newv 3 25 (.cst (.agg [.p (.bool false),.tight [],.tight []]))⟩,⟨some 5,none,.mov (.cst (.p (.int .i64 0)))⟩]) (.seq (.seq (.region [⟨some 11,none,.load 4 true (.tmp 2)⟩,⟨some 12,none,.call 31 [.tmp 11]⟩,⟨some 13,none,.un .not (.tmp 12)⟩]) (.cond (.tmp 13) (.seq (.region [⟨some 14,none,.build (.agg [.p (.bool false),.tight [],.tight []]) []⟩,⟨none,none,.store 3 (.tmp 4) (.tmp 14)⟩,⟨some 5,none,.mov (.cst (.p (.int .i64 1)))⟩]) (.ret)) (.skip))) (.seq (.seq (.region [⟨some 6,none,.mov (.cst (.p (.int .i64 0)))⟩]) (lf27_B0)) (.seq (.region [⟨some 33,none,.fadr 1 (.tmp 2)⟩,⟨some 34,none,.load 3 true (.tmp 33)⟩,⟨some 7,none,.newv 3 25 (.cst (.agg [.p (.bool false),.tight [],.tight []]))⟩,⟨none,none,.store 3 (.tmp 7) (.tmp 34)⟩]) (.seq (.seq (.region [⟨some 8,none,.mov (.cst (.p (.int .i64 0)))⟩]) (lf27_B1)) (.seq (.region [⟨some 72,none,.load 3 true (.tmp 7)⟩,⟨none,none,.store 3 (.tmp 4) (.tmp 72)⟩,⟨some 5,none,.mov (.cst (.p (.int .i64 0)))⟩]) (.ret))))))⟩
theorem low27 : lowFunc Tryz.prog gl0 27 = some lf27 := lowF (by kernel_rfl)
def lf28_B0 : LCode := .block 0 (
  .loop (
   .seq (
    .seq (
     .region [
       ⟨(some 21), none, .mov (.tmp 5)⟩,
       ⟨(some 22), none, .fadr 0 (.tmp 2)⟩,
       ⟨(some 23), none, .load 1 false (.tmp 22)⟩,
       ⟨(some 24), none, .len (.tmp 23)⟩,
       ⟨(some 25), none, .bin .lss (.tmp 21) (.tmp 24)⟩]) (
     .cond (.tmp 25) (
      .skip) (
      .exit 0))) (
    .seq (
     .block 1 (
      .seq (
       .regionD [
         ⟨(some 28), none, .fadr 0 (.tmp 2)⟩,
         ⟨(some 29), none, .load 1 false (.tmp 28)⟩,
         ⟨(some 30), none, .mov (.tmp 5)⟩,
         ⟨(some 31), none, .iadr 4 (.tmp 29) (.tmp 30)⟩,
         ⟨(some 32), none, .fadr 3 (.tmp 31)⟩,
         ⟨(some 33), none, .load 1 false (.tmp 32)⟩,
         ⟨(some 34), none, .fadr 0 (.tmp 3)⟩,
         ⟨(some 35), none, .load 1 false (.tmp 34)⟩,
         ⟨(some 36), none, .mov (.tmp 5)⟩,
         ⟨(some 37), none, .iadr 4 (.tmp 35) (.tmp 36)⟩,
         ⟨(some 38), none, .fadr 3 (.tmp 37)⟩,
         ⟨(some 39), none, .load 1 false (.tmp 38)⟩,
         ⟨(some 40), none, .bin .neq (.tmp 33) (.tmp 39)⟩,
         ⟨(some 41), none, .mov (.tmp 40)⟩,
         ⟨(some 42), (some (41, false)), .fadr 0 (.tmp 2)⟩,
         ⟨(some 43), (some (41, false)), .load 1 false (.tmp 42)⟩,
         ⟨(some 44), (some (41, false)), .mov (.tmp 5)⟩,
         ⟨(some 45), (some (41, false)), .iadr 4 (.tmp 43) (.tmp 44)⟩,
         ⟨(some 46), (some (41, false)), .fadr 0 (.tmp 45)⟩,
         ⟨(some 47), (some (41, false)), .load 3 true (.tmp 46)⟩,
         ⟨(some 48), (some (41, false)), .fadr 0 (.tmp 3)⟩,
         ⟨(some 49), (some (41, false)), .load 1 false (.tmp 48)⟩,
         ⟨(some 50), (some (41, false)), .mov (.tmp 5)⟩,
         ⟨(some 51), (some (41, false)), .iadr 4 (.tmp 49) (.tmp 50)⟩,
         ⟨(some 52), (some (41, false)), .fadr 0 (.tmp 51)⟩,
         ⟨(some 53), (some (41, false)), .load 3 true (.tmp 52)⟩,
         ⟨(some 54), (some (41, false)), .call 29 [(.tmp 47), (.tmp 53)]⟩,
         ⟨(some 55), (some (41, false)), .un .not (.tmp 54)⟩,
         ⟨(some 56), none, .pick (.tmp 41) (.cst (.p (.bool true))) (.tmp 55)⟩]) (
       .cond (.tmp 56) (
        .seq (
         .region [
           ⟨(some 4), none, .mov (.cst (.p (.bool false)))⟩]) (
         .ret)) (
        .skip)))) (
     .region [
       ⟨(some 26), none, .mov (.tmp 5)⟩,
       ⟨(some 27), none, .bin .add (.tmp 26) (.cst (.p (.int .i64 1)))⟩,
       ⟨(some 5), none, .mov (.tmp 27)⟩]))))
def lf28 : LFunc := ⟨57,[.slot 4], .seq (.region [⟨some 2,none,.newv 4 27 (.tmp 0)⟩,⟨some 3,none,.newv 4 27 (.tmp 1)⟩,⟨some 4,none,.mov (.cst (.p (.bool false)))⟩]) (.seq (.seq (.region [⟨some 6,none,.fadr 0 (.tmp 2)⟩,⟨some 7,none,.load 1 false (.tmp 6)⟩,⟨some 8,none,.len (.tmp 7)⟩,⟨some 9,none,.fadr 0 (.tmp 3)⟩,⟨some 10,none,.load 1 false (.tmp 9)⟩,⟨some 11,none,.len (.tmp 10)⟩,⟨some 12,none,.bin .neq (.tmp 8) (.tmp 11)⟩,⟨some 13,none,.mov (.tmp 12)⟩,⟨some 14,some (13,false),.fadr 1 (.tmp 2)⟩,⟨some 15,some (13,false),.load 3 true (.tmp 14)⟩,⟨some 16,some (13,false),.fadr 1 (.tmp 3)⟩,⟨some 17,some (13,false),.load 3 true (.tmp 16)⟩,⟨some 18,some (13,false),.call 29 [.tmp 15,.tmp 17]⟩,⟨some 19,some (13,false),.un .not (.tmp 18)⟩,⟨some 20,none,.pick (.tmp 13) (.cst (.p (.bool true))) (.tmp 19)⟩]) (.cond (.tmp 20) (.seq (.region [⟨some 4,none,.mov (.cst (.p (.bool false)))⟩]) (.ret)) (.skip))) (.seq (.seq (.region [⟨some 5,none,.mov (.cst (.p (.int .i64 0)))⟩]) (lf28_B0)) (.seq (.region [⟨some 4,none,.mov (.cst (.p (.bool true)))⟩]) (.ret))))⟩
theorem low28 : lowFunc Tryz.prog gl0 28 = some lf28 := lowF (by kernel_rfl)
def lf31_B0 : LCode := .block 0 (
  .loop (
   .seq (
    .seq (
     .region [
       ⟨(some 6), none, .mov (.tmp 4)⟩,
       ⟨(some 7), none, .fadr 0 (.tmp 1)⟩,
       ⟨(some 8), none, .load 1 false (.tmp 7)⟩,
       ⟨(some 9), none, .len (.tmp 8)⟩,
       ⟨(some 10), none, .bin .lss (.tmp 6) (.tmp 9)⟩]) (
     .cond (.tmp 10) (
      .skip) (
      .exit 0))) (
    .seq (
     .block 1 (
      .seq (
       .region [
         ⟨(some 13), none, .fadr 0 (.tmp 1)⟩,
         ⟨(some 14), none, .load 1 false (.tmp 13)⟩,
         ⟨(some 15), none, .mov (.tmp 4)⟩,
         ⟨(some 16), none, .iadr 4 (.tmp 14) (.tmp 15)⟩,
         ⟨(some 17), none, .load 4 true (.tmp 16)⟩,
         ⟨(some 5), none, .newv 4 112 (.cst (.agg [(.p (.bool false)), (.tight []), (.tight []), (.p (.int .i64 0))]))⟩,
         ⟨none, none, .store 4 (.tmp 5) (.tmp 17)⟩]) (
       .seq (
        .seq (
         .region [
           ⟨(some 18), none, .fadr 3 (.tmp 5)⟩,
           ⟨(some 19), none, .load 1 false (.tmp 18)⟩,
           ⟨(some 20), none, .mov (.tmp 3)⟩,
           ⟨(some 21), none, .bin .leq (.tmp 19) (.tmp 20)⟩,
           ⟨(some 22), none, .mov (.tmp 21)⟩,
           ⟨(some 23), (some (22, false)), .fadr 0 (.tmp 5)⟩,
           ⟨(some 24), (some (22, false)), .load 3 true (.tmp 23)⟩,
           ⟨(some 25), (some (22, false)), .call 50 [(.tmp 24)]⟩,
           ⟨(some 26), (some (22, false)), .un .not (.tmp 25)⟩,
           ⟨(some 27), none, .pick (.tmp 22) (.cst (.p (.bool true))) (.tmp 26)⟩,
           ⟨(some 28), none, .mov (.tmp 27)⟩,
           ⟨(some 29), (some (28, false)), .fadr 0 (.tmp 5)⟩,
           ⟨(some 30), (some (28, false)), .fadr 1 (.tmp 29)⟩,
           ⟨(some 31), (some (28, false)), .load 1 false (.tmp 30)⟩,
           ⟨(some 32), (some (28, false)), .len (.tmp 31)⟩,
           ⟨(some 33), (some (28, false)), .bin .eql (.tmp 32) (.cst (.p (.int .i64 0)))⟩,
           ⟨(some 34), none, .pick (.tmp 28) (.cst (.p (.bool true))) (.tmp 33)⟩]) (
         .cond (.tmp 34) (
          .seq (
           .region [
             ⟨(some 2), none, .mov (.cst (.p (.bool false)))⟩]) (
           .ret)) (
          .skip))) (
        .region [
          ⟨(some 35), none, .fadr 3 (.tmp 5)⟩,
          ⟨(some 36), none, .load 1 false (.tmp 35)⟩,
          ⟨(some 3), none, .mov (.tmp 36)⟩])))) (
     .region [
       ⟨(some 11), none, .mov (.tmp 4)⟩,
       ⟨(some 12), none, .bin .add (.tmp 11) (.cst (.p (.int .i64 1)))⟩,
       ⟨(some 4), none, .mov (.tmp 12)⟩]))))
def lf31 : LFunc := ⟨40,[.slot 2], .seq (.region [⟨some 1,none,.newv 4 27 (.tmp 0)⟩,⟨some 2,none,.mov (.cst (.p (.bool false)))⟩]) (.seq (.region [⟨some 3,none,.mov (.cst (.p (.int .i64 (-1))))⟩]) (.seq (.seq (.region [⟨some 4,none,.mov (.cst (.p (.int .i64 0)))⟩]) (lf31_B0)) (.seq (.region [⟨some 37,none,.fadr 1 (.tmp 1)⟩,⟨some 38,none,.load 3 true (.tmp 37)⟩,⟨some 39,none,.call 50 [.tmp 38]⟩,⟨some 2,none,.mov (.tmp 39)⟩]) (.ret))))⟩
theorem low31 : lowFunc Tryz.prog gl0 31 = some lf31 := lowF (by kernel_rfl)
def lf91 : LFunc := ⟨2,[.cell 0 3 true], .seq (.region [⟨some 0,none,.newv 3 25 (.cst (.agg [.p (.bool false),.tight [],.tight []]))⟩]) (.seq (.region [⟨some 1,none,.call 82 [.cst (.p (.int .i64 0)),.cst (.p (.int .i64 1))]⟩,⟨none,none,.store 3 (.tmp 0) (.tmp 1)⟩]) (.ret))⟩
theorem low91 : lowFunc Tryz.prog gl0 91 = some lf91 := lowF (by kernel_rfl)
end Go.Proofs.YtepfpgnjpkcgmaaGreat
