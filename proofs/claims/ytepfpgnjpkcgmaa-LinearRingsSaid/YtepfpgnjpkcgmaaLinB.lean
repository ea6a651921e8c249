/-
  The lowered code of linear, alike, law8 and the reference's sums, each equal to what the program's form lowers to. No conditions.
-/
import Derived.Test.YtepfpgnjpkcgmaaAbsTwo
import Derived.Test.YtepfpgnjpkcgmaaProg
import Derived.Test.YtepfpgnjpkcgmaaNatA
import Derived.KernelRfl
set_option linter.unusedSimpArgs false
set_option linter.unnecessarySimpa false
set_option linter.unusedVariables false
set_option linter.constructorNameAsVariable false

/-
  The lowered code of the functions, as the program's form has it.
-/
namespace Go.Proofs.Ytepfpgnjpkcgmaa
open Go Go.Abs
def lf9_B0 : LCode := .block 0 (
  .loop (
   .seq (
    .seq (
     .region [
       ⟨(some 35), none, .mov (.tmp 6)⟩,
       ⟨(some 36), none, .len (.tmp 35)⟩,
       ⟨(some 37), none, .bin .gtr (.tmp 36) (.cst (.p (.int .i64 0)))⟩,
       ⟨(some 38), none, .mov (.tmp 37)⟩,
       ⟨(some 39), (some (38, false)), .mov (.tmp 7)⟩,
       ⟨(some 40), (some (38, false)), .len (.tmp 39)⟩,
       ⟨(some 41), (some (38, false)), .bin .gtr (.tmp 40) (.cst (.p (.int .i64 0)))⟩,
       ⟨(some 42), none, .pick (.tmp 38) (.cst (.p (.bool true))) (.tmp 41)⟩]) (
     .cond (.tmp 42) (
      .skip) (
      .exit 0))) (
    .block 1 (
     .seq (
      .region [
        ⟨(some 8), none, .newv 4 40 (.cst (.agg [(.p (.bool false)), (.tight []), (.tight []), (.p (.int .i64 0))]))⟩]) (
      .seq (
       .block 2 (
        .seq (
         .regionD [
           ⟨(some 70), none, .mov (.tmp 7)⟩,
           ⟨(some 71), none, .len (.tmp 70)⟩,
           ⟨(some 72), none, .bin .eql (.tmp 71) (.cst (.p (.int .i64 0)))⟩,
           ⟨(some 73), none, .mov (.tmp 72)⟩,
           ⟨(some 74), (some (73, false)), .mov (.tmp 6)⟩,
           ⟨(some 75), (some (73, false)), .len (.tmp 74)⟩,
           ⟨(some 76), (some (73, false)), .bin .gtr (.tmp 75) (.cst (.p (.int .i64 0)))⟩,
           ⟨(some 77), (some (73, false)), .mov (.tmp 76)⟩,
           ⟨(some 78), (some (77, true)), .mov (.tmp 6)⟩,
           ⟨(some 79), (some (77, true)), .iadr 4 (.tmp 78) (.cst (.p (.int .i64 0)))⟩,
           ⟨(some 80), (some (77, true)), .fadr 3 (.tmp 79)⟩,
           ⟨(some 81), (some (77, true)), .load 1 false (.tmp 80)⟩,
           ⟨(some 82), (some (77, true)), .mov (.tmp 7)⟩,
           ⟨(some 83), (some (77, true)), .iadr 4 (.tmp 82) (.cst (.p (.int .i64 0)))⟩,
           ⟨(some 84), (some (77, true)), .fadr 3 (.tmp 83)⟩,
           ⟨(some 85), (some (77, true)), .load 1 false (.tmp 84)⟩,
           ⟨(some 86), (some (77, true)), .bin .lss (.tmp 81) (.tmp 85)⟩,
           ⟨(some 87), (some (73, false)), .pick (.tmp 77) (.tmp 86) (.cst (.p (.bool false)))⟩,
           ⟨(some 88), none, .pick (.tmp 73) (.cst (.p (.bool true))) (.tmp 87)⟩,
           ⟨(some 69), none, .mov (.tmp 88)⟩]) (
         .cond (.tmp 69) (
          .regionW [
            (⟨(some 89), none, .mov (.tmp 6)⟩, .f),
            (⟨(some 90), none, .iadr 4 (.tmp 89) (.cst (.p (.int .i64 0)))⟩, .f),
            (⟨(some 91), none, .fadr 0 (.tmp 90)⟩, .f),
            (⟨(some 92), none, .load 3 true (.tmp 91)⟩, .f),
            (⟨(some 93), none, .call 25 [(.tmp 92)]⟩, .s),
            (⟨(some 94), none, .mov (.tmp 6)⟩, .f),
            (⟨(some 95), none, .iadr 4 (.tmp 94) (.cst (.p (.int .i64 0)))⟩, .s),
            (⟨(some 96), none, .fadr 3 (.tmp 95)⟩, .s),
            (⟨(some 97), none, .load 1 false (.tmp 96)⟩, .s),
            (⟨(some 98), none, .build (.agg [(.p (.bool false)), (.tight []), (.tight []), (.p (.int .i64 0))]) [(0, 3, (.tmp 93)), (3, 1, (.tmp 97))]⟩, .f),
            (⟨(some 99), none, .mov (.tmp 6)⟩, .f),
            (⟨(some 100), none, .slSl 4 (.tmp 99) (some (.cst (.p (.int .i64 1)))) none none⟩, .s),
            (⟨none, none, .store 4 (.tmp 8) (.tmp 98)⟩, .s),
            (⟨(some 6), none, .mov (.tmp 100)⟩, .f)]) (
          .seq (
           .regionD [
             ⟨(some 102), none, .mov (.tmp 6)⟩,
             ⟨(some 103), none, .len (.tmp 102)⟩,
             ⟨(some 104), none, .bin .eql (.tmp 103) (.cst (.p (.int .i64 0)))⟩,
             ⟨(some 105), none, .mov (.tmp 104)⟩,
             ⟨(some 106), (some (105, false)), .mov (.tmp 7)⟩,
             ⟨(some 107), (some (105, false)), .iadr 4 (.tmp 106) (.cst (.p (.int .i64 0)))⟩,
             ⟨(some 108), (some (105, false)), .fadr 3 (.tmp 107)⟩,
             ⟨(some 109), (some (105, false)), .load 1 false (.tmp 108)⟩,
             ⟨(some 110), (some (105, false)), .mov (.tmp 6)⟩,
             ⟨(some 111), (some (105, false)), .iadr 4 (.tmp 110) (.cst (.p (.int .i64 0)))⟩,
             ⟨(some 112), (some (105, false)), .fadr 3 (.tmp 111)⟩,
             ⟨(some 113), (some (105, false)), .load 1 false (.tmp 112)⟩,
             ⟨(some 114), (some (105, false)), .bin .lss (.tmp 109) (.tmp 113)⟩,
             ⟨(some 115), none, .pick (.tmp 105) (.cst (.p (.bool true))) (.tmp 114)⟩,
             ⟨(some 101), none, .mov (.tmp 115)⟩]) (
           .cond (.tmp 101) (
            .regionW [
              (⟨(some 116), none, .mov (.tmp 7)⟩, .f),
              (⟨(some 117), none, .iadr 4 (.tmp 116) (.cst (.p (.int .i64 0)))⟩, .f),
              (⟨(some 118), none, .fadr 0 (.tmp 117)⟩, .f),
              (⟨(some 119), none, .load 3 true (.tmp 118)⟩, .f),
              (⟨(some 120), none, .call 25 [(.tmp 119)]⟩, .s),
              (⟨(some 121), none, .mov (.tmp 7)⟩, .f),
              (⟨(some 122), none, .iadr 4 (.tmp 121) (.cst (.p (.int .i64 0)))⟩, .s),
              (⟨(some 123), none, .fadr 3 (.tmp 122)⟩, .s),
              (⟨(some 124), none, .load 1 false (.tmp 123)⟩, .s),
              (⟨(some 125), none, .build (.agg [(.p (.bool false)), (.tight []), (.tight []), (.p (.int .i64 0))]) [(0, 3, (.tmp 120)), (3, 1, (.tmp 124))]⟩, .f),
              (⟨(some 126), none, .mov (.tmp 7)⟩, .f),
              (⟨(some 127), none, .slSl 4 (.tmp 126) (some (.cst (.p (.int .i64 1)))) none none⟩, .s),
              (⟨none, none, .store 4 (.tmp 8) (.tmp 125)⟩, .s),
              (⟨(some 7), none, .mov (.tmp 127)⟩, .f)]) (
            .seq (
             .region [
               ⟨(some 43), none, .mov (.tmp 6)⟩,
               ⟨(some 44), none, .iadr 4 (.tmp 43) (.cst (.p (.int .i64 0)))⟩,
               ⟨(some 45), none, .fadr 3 (.tmp 44)⟩,
               ⟨(some 46), none, .load 1 false (.tmp 45)⟩,
               ⟨(some 47), none, .fadr 3 (.tmp 8)⟩,
               ⟨none, none, .store 1 (.tmp 47) (.tmp 46)⟩]) (
             .seq (
              .seq (
               .regionW [
                 (⟨(some 49), none, .mov (.tmp 6)⟩, .f),
                 (⟨(some 50), none, .iadr 4 (.tmp 49) (.cst (.p (.int .i64 0)))⟩, .f),
                 (⟨(some 51), none, .fadr 0 (.tmp 50)⟩, .f),
                 (⟨(some 52), none, .load 3 true (.tmp 51)⟩, .f),
                 (⟨(some 53), none, .mov (.tmp 7)⟩, .f),
                 (⟨(some 54), none, .iadr 4 (.tmp 53) (.cst (.p (.int .i64 0)))⟩, .f),
                 (⟨(some 55), none, .fadr 0 (.tmp 54)⟩, .f),
                 (⟨(some 56), none, .load 3 true (.tmp 55)⟩, .f),
                 (⟨(some 57), none, .call 24 [(.tmp 52), (.tmp 56)]⟩, .f),
                 (⟨(some 48), none, .mov (.tmp 57)⟩, .f),
                 (⟨(some 58), none, .ext (.tmp 48) 0⟩, .f),
                 (⟨(some 59), none, .ext (.tmp 48) 1⟩, .f),
                 (⟨(some 60), none, .fadr 0 (.tmp 8)⟩, .f),
                 (⟨none, none, .store 3 (.tmp 60) (.tmp 58)⟩, .f),
                 (⟨(some 5), none, .mov (.tmp 59)⟩, .f)]) (
               .seq (
                .region [
                  ⟨(some 61), none, .mov (.tmp 5)⟩,
                  ⟨(some 62), none, .bin .neq (.tmp 61) (.cst (.p (.int .i64 0)))⟩]) (
                .cond (.tmp 62) (
                 .seq (
                  .region [
                    ⟨(some 63), none, .build (.agg [(.tight []), (.p (.bool false)), (.tight []), (.tight [])]) []⟩,
                    ⟨(some 64), none, .mov (.tmp 5)⟩,
                    ⟨none, none, .store 4 (.tmp 4) (.tmp 63)⟩,
                    ⟨(some 5), none, .mov (.tmp 64)⟩]) (
                  .ret)) (
                 .skip)))) (
              .regionD [
                ⟨(some 65), none, .mov (.tmp 6)⟩,
                ⟨(some 66), none, .slSl 4 (.tmp 65) (some (.cst (.p (.int .i64 1)))) none none⟩,
                ⟨(some 67), none, .mov (.tmp 7)⟩,
                ⟨(some 68), none, .slSl 4 (.tmp 67) (some (.cst (.p (.int .i64 1)))) none none⟩,
                ⟨(some 6), none, .mov (.tmp 66)⟩,
                ⟨(some 7), none, .mov (.tmp 68)⟩])))))))) (
       .seq (
        .region [
          ⟨(some 128), none, .fadr 0 (.tmp 8)⟩,
          ⟨(some 129), none, .load 3 true (.tmp 128)⟩,
          ⟨(some 130), none, .call 26 [(.tmp 129)]⟩,
          ⟨(some 131), none, .bin .neq (.tmp 130) (.cst (.p (.int .i64 0)))⟩]) (
        .cond (.tmp 131) (
         .region [
           ⟨(some 132), none, .fadr 0 (.tmp 4)⟩,
           ⟨(some 133), none, .load 1 false (.tmp 132)⟩,
           ⟨(some 134), none, .load 4 true (.tmp 8)⟩,
           ⟨(some 135), none, .buildSl 4 40 (.agg [(.p (.bool false)), (.tight []), (.tight []), (.p (.int .i64 0))]) 1 [(0, (.tmp 134))]⟩,
           ⟨(some 136), none, .app 4 64 40 (.tmp 133) (.tmp 135)⟩,
           ⟨(some 137), none, .fadr 0 (.tmp 4)⟩,
           ⟨none, none, .store 1 (.tmp 137) (.tmp 136)⟩]) (
         .skip))))))))
def lf9 : LFunc := ⟨139,[.cell 4 4 true,.slot 5], .seq (.region [⟨some 2,none,.newv 4 27 (.tmp 0)⟩,⟨some 3,none,.newv 4 27 (.tmp 1)⟩,⟨some 4,none,.newv 4 27 (.cst (.agg [.tight [],.p (.bool false),.tight [],.tight []]))⟩,⟨some 5,none,.mov (.cst (.p (.int .i64 0)))⟩]) (.seq (.seq (.region [⟨some 9,none,.load 4 true (.tmp 2)⟩,⟨some 10,none,.call 13 [.tmp 9]⟩,⟨some 11,none,.un .not (.tmp 10)⟩,⟨some 12,none,.mov (.tmp 11)⟩,⟨some 13,some (12,false),.load 4 true (.tmp 3)⟩,⟨some 14,some (12,false),.call 13 [.tmp 13]⟩,⟨some 15,some (12,false),.un .not (.tmp 14)⟩,⟨some 16,none,.pick (.tmp 12) (.cst (.p (.bool true))) (.tmp 15)⟩]) (.cond (.tmp 16) (.seq (.region [⟨some 17,none,.load 4 true (.tmp 4)⟩,⟨none,none,.store 4 (.tmp 4) (.tmp 17)⟩,⟨some 5,none,.mov (.cst (.p (.int .i64 1)))⟩]) (.ret)) (.skip))) (.seq (.seq (.region [⟨some 19,none,.fadr 1 (.tmp 2)⟩,⟨some 20,none,.load 3 true (.tmp 19)⟩,⟨some 21,none,.fadr 1 (.tmp 3)⟩,⟨some 22,none,.load 3 true (.tmp 21)⟩,⟨some 23,none,.call 24 [.tmp 20,.tmp 22]⟩,⟨some 18,none,.mov (.tmp 23)⟩,⟨some 24,none,.ext (.tmp 18) 0⟩,⟨some 25,none,.ext (.tmp 18) 1⟩,⟨some 26,none,.fadr 1 (.tmp 4)⟩,⟨none,none,.store 3 (.tmp 26) (.tmp 24)⟩,⟨some 5,none,.mov (.tmp 25)⟩]) (.seq (.region [⟨some 27,none,.mov (.tmp 5)⟩,⟨some 28,none,.bin .neq (.tmp 27) (.cst (.p (.int .i64 0)))⟩]) (.cond (.tmp 28) (.seq (.region [⟨some 29,none,.build (.agg [.tight [],.p (.bool false),.tight [],.tight []]) []⟩,⟨some 30,none,.mov (.tmp 5)⟩,⟨none,none,.store 4 (.tmp 4) (.tmp 29)⟩,⟨some 5,none,.mov (.tmp 30)⟩]) (.ret)) (.skip)))) (.seq (.regionD [⟨some 31,none,.fadr 0 (.tmp 2)⟩,⟨some 32,none,.load 1 false (.tmp 31)⟩,⟨some 33,none,.fadr 0 (.tmp 3)⟩,⟨some 34,none,.load 1 false (.tmp 33)⟩,⟨some 6,none,.mov (.tmp 32)⟩,⟨some 7,none,.mov (.tmp 34)⟩]) (.seq (lf9_B0) (.seq (.region [⟨some 138,none,.load 4 true (.tmp 4)⟩,⟨none,none,.store 4 (.tmp 4) (.tmp 138)⟩,⟨some 5,none,.mov (.cst (.p (.int .i64 0)))⟩]) (.ret))))))⟩
theorem low9 : lowFunc Try.prog gl0 9 = some lf9 := lowF (by kernel_rfl)
def lf10_B0 : LCode := .block 0 (
  .loop (
   .seq (
    .region [
      ⟨(some 37), none, .bin .lss (.tmp 36) (.tmp 35)⟩]) (
    .seq (
     .cond (.tmp 37) (
      .skip) (
      .exit 0)) (
     .seq (
      .block 1 (
       .seq (
        .region [
          ⟨(some 38), none, .iadr 4 (.tmp 34) (.tmp 36)⟩,
          ⟨(some 39), none, .load 4 true (.tmp 38)⟩,
          ⟨(some 7), none, .newv 4 40 (.cst (.agg [(.p (.bool false)), (.tight []), (.tight []), (.p (.int .i64 0))]))⟩,
          ⟨none, none, .store 4 (.tmp 7) (.tmp 39)⟩]) (
        .seq (
         .seq (
          .region [
            ⟨(some 41), none, .fadr 0 (.tmp 7)⟩,
            ⟨(some 42), none, .load 3 true (.tmp 41)⟩,
            ⟨(some 43), none, .load 3 true (.tmp 3)⟩,
            ⟨(some 44), none, .call 28 [(.tmp 42), (.tmp 43)]⟩,
            ⟨(some 40), none, .mov (.tmp 44)⟩,
            ⟨(some 45), none, .ext (.tmp 40) 0⟩,
            ⟨(some 46), none, .ext (.tmp 40) 1⟩,
            ⟨(some 47), none, .fadr 0 (.tmp 7)⟩,
            ⟨none, none, .store 3 (.tmp 47) (.tmp 45)⟩,
            ⟨(some 5), none, .mov (.tmp 46)⟩]) (
          .seq (
           .region [
             ⟨(some 48), none, .mov (.tmp 5)⟩,
             ⟨(some 49), none, .bin .neq (.tmp 48) (.cst (.p (.int .i64 0)))⟩]) (
           .cond (.tmp 49) (
            .seq (
             .region [
               ⟨(some 50), none, .build (.agg [(.tight []), (.p (.bool false)), (.tight []), (.tight [])]) []⟩,
               ⟨(some 51), none, .mov (.tmp 5)⟩,
               ⟨none, none, .store 4 (.tmp 4) (.tmp 50)⟩,
               ⟨(some 5), none, .mov (.tmp 51)⟩]) (
             .ret)) (
            .skip)))) (
         .region [
           ⟨(some 52), none, .fadr 0 (.tmp 4)⟩,
           ⟨(some 53), none, .load 1 false (.tmp 52)⟩,
           ⟨(some 54), none, .load 4 true (.tmp 7)⟩,
           ⟨(some 55), none, .buildSl 4 40 (.agg [(.p (.bool false)), (.tight []), (.tight []), (.p (.int .i64 0))]) 1 [(0, (.tmp 54))]⟩,
           ⟨(some 56), none, .app 4 64 40 (.tmp 53) (.tmp 55)⟩,
           ⟨(some 57), none, .fadr 0 (.tmp 4)⟩,
           ⟨none, none, .store 1 (.tmp 57) (.tmp 56)⟩])))) (
      .region [
        ⟨(some 58), none, .bin .add (.tmp 36) (.cst (.p (.int .i64 1)))⟩,
        ⟨(some 36), none, .mov (.tmp 58)⟩])))))
def lf10 : LFunc := ⟨60,[.cell 4 4 true,.slot 5], .seq (.region [⟨some 2,none,.newv 4 27 (.tmp 0)⟩,⟨some 3,none,.newv 3 25 (.tmp 1)⟩,⟨some 4,none,.newv 4 27 (.cst (.agg [.tight [],.p (.bool false),.tight [],.tight []]))⟩,⟨some 5,none,.mov (.cst (.p (.int .i64 0)))⟩]) (.seq (.seq (.region [⟨some 8,none,.load 4 true (.tmp 2)⟩,⟨some 9,none,.call 13 [.tmp 8]⟩,⟨some 10,none,.un .not (.tmp 9)⟩,⟨some 11,none,.mov (.tmp 10)⟩,⟨some 12,some (11,false),.load 3 true (.tmp 3)⟩,⟨some 13,some (11,false),.call 27 [.tmp 12]⟩,⟨some 14,some (11,false),.un .not (.tmp 13)⟩,⟨some 15,none,.pick (.tmp 11) (.cst (.p (.bool true))) (.tmp 14)⟩]) (.cond (.tmp 15) (.seq (.region [⟨some 16,none,.load 4 true (.tmp 4)⟩,⟨none,none,.store 4 (.tmp 4) (.tmp 16)⟩,⟨some 5,none,.mov (.cst (.p (.int .i64 1)))⟩]) (.ret)) (.skip))) (.seq (.seq (.region [⟨some 18,none,.fadr 1 (.tmp 2)⟩,⟨some 19,none,.load 3 true (.tmp 18)⟩,⟨some 20,none,.load 3 true (.tmp 3)⟩,⟨some 21,none,.call 28 [.tmp 19,.tmp 20]⟩,⟨some 17,none,.mov (.tmp 21)⟩,⟨some 22,none,.ext (.tmp 17) 0⟩,⟨some 23,none,.ext (.tmp 17) 1⟩,⟨some 24,none,.fadr 1 (.tmp 4)⟩,⟨none,none,.store 3 (.tmp 24) (.tmp 22)⟩,⟨some 5,none,.mov (.tmp 23)⟩]) (.seq (.region [⟨some 25,none,.mov (.tmp 5)⟩,⟨some 26,none,.bin .neq (.tmp 25) (.cst (.p (.int .i64 0)))⟩]) (.cond (.tmp 26) (.seq (.region [⟨some 27,none,.build (.agg [.tight [],.p (.bool false),.tight [],.tight []]) []⟩,⟨some 28,none,.mov (.tmp 5)⟩,⟨none,none,.store 4 (.tmp 4) (.tmp 27)⟩,⟨some 5,none,.mov (.tmp 28)⟩]) (.ret)) (.skip)))) (.seq (.seq (.region [⟨some 29,none,.load 3 true (.tmp 3)⟩,⟨some 30,none,.call 26 [.tmp 29]⟩,⟨some 31,none,.bin .eql (.tmp 30) (.cst (.p (.int .i64 0)))⟩]) (.cond (.tmp 31) (.seq (.region [⟨some 32,none,.load 4 true (.tmp 4)⟩,⟨none,none,.store 4 (.tmp 4) (.tmp 32)⟩,⟨some 5,none,.mov (.cst (.p (.int .i64 0)))⟩]) (.ret)) (.skip))) (.seq (.seq (.region [⟨some 33,none,.fadr 0 (.tmp 2)⟩,⟨some 34,none,.load 1 false (.tmp 33)⟩,⟨some 35,none,.len (.tmp 34)⟩,⟨some 36,none,.mov (.cst (.p (.int
 .i64 0)))⟩]) (lf10_B0)) (.seq (.region [⟨some 59,none,.load 4 true (.tmp 4)⟩,⟨none,none,.store 4 (.tmp 4) (.tmp 59)⟩,⟨some 5,none,.mov (.cst (.p (.int .i64 0)))⟩]) (.ret))))))⟩
theorem low10 : lowFunc Try.prog gl0 10 = some lf10 := lowF (by kernel_rfl)
def lf19 : LFunc := ⟨42,[.cell 4 4 true,.slot 5], .seq (.region [⟨some 2,none,.newv 4 27 (.tmp 0)⟩,⟨some 4,none,.newv 4 27 (.cst (.agg [.tight [],.p (.bool false),.tight [],.tight []]))⟩,⟨some 5,none,.mov (.cst (.p (.int .i64 0)))⟩]) (.seq (.region [⟨some 9,none,.load 4 true (.tmp 2)⟩,⟨some 10,none,.mov (.tmp 1)⟩,⟨some 11,none,.call 36 [.tmp 9,.tmp 10]⟩,⟨some 6,none,.mov (.tmp 11)⟩]) (.seq (.seq (.region [⟨some 12,none,.mov (.tmp 6)⟩,⟨some 13,none,.bin .lss (.tmp 12) (.cst (.p (.int .i64 0)))⟩,⟨some 14,none,.mov (.tmp 13)⟩,⟨some 15,some (14,false),.load 4 true (.tmp 2)⟩,⟨some 16,some (14,false),.call 13 [.tmp 15]⟩,⟨some 17,some (14,false),.un .not (.tmp 16)⟩,⟨some 18,none,.pick (.tmp 14) (.cst (.p (.bool true))) (.tmp 17)⟩]) (.cond (.tmp 18) (.seq (.region [⟨some 19,none,.build (.agg [.tight [],.p (.bool false),.tight [],.tight []]) []⟩,⟨none,none,.store 4 (.tmp 4) (.tmp 19)⟩,⟨some 5,none,.mov (.cst (.p (.int .i64 1)))⟩]) (.ret)) (.skip))) (.seq (.regionW [(⟨some 21,none,.call 38 [.cst (.p (.int .i64 (-1))),.cst (.p (.int .i64 1))]⟩,.t),(⟨some 22,none,.fadr 0 (.tmp 2)⟩,.s),(⟨some 23,none,.load 1 false (.tmp 22)⟩,.s),(⟨some 24,none,.mov (.tmp 6)⟩,.f),(⟨some 25,none,.iadr 4 (.tmp 23) (.tmp 24)⟩,.s),(⟨some 26,none,.fadr 0 (.tmp 25)⟩,.s),(⟨some 27,none,.load 3 true (.tmp 26)⟩,.s),(⟨some 28,none,.call 37 [.tmp 21,.tmp 27]⟩,.t),(⟨some 20,none,.mov (.tmp 28)⟩,.f),(⟨some 29,none,.ext (.tmp 20) 0⟩,.f),(⟨some 30,none,.ext (.tmp 20) 1⟩,.f),(⟨some 7,none,.newv 3 25 (.cst (.agg [.p (.bool false),.tight [],.tight []]))⟩,.s),(⟨none,none,.store 3 (.tmp 7) (.tmp 29)⟩,.f),(⟨some 8,none,.mov (.tmp 30)⟩,.f)]) (.seq (.seq (.region [⟨some 31,none,.mov (.tmp 8)⟩,⟨some 32,none,.bin .neq (.tmp 31) (.cst (.p (.int .i64 0)))⟩]) (.cond (.tmp 32) (.seq (.region [⟨some 33,none,.build (.agg [.tight [],.p (.bool false),.tight [],.tight []]) []⟩,⟨some 34,none,.mov (.tmp 8)⟩,⟨none,none,.store 4 (.tmp 4) (.tmp 33)⟩,⟨some 5,none,.mov (.tmp 34)⟩]) (.ret)) (.skip))) (.seq (.regionW [(⟨some 35,none,.load
 4 true (.tmp 2)⟩,.f),(⟨some 36,none,.mov (.tmp 1)⟩,.f),(⟨some 37,none,.call 39 [.tmp 35,.tmp 36]⟩,.s),(⟨some 38,none,.load 3 true (.tmp 7)⟩,.s),(⟨some 39,none,.call 10 [.tmp 37,.tmp 38]⟩,.f),(⟨some 40,none,.ext (.tmp 39) 0⟩,.f),(⟨some 41,none,.ext (.tmp 39) 1⟩,.f),(⟨none,none,.store 4 (.tmp 4) (.tmp 40)⟩,.f),(⟨some 5,none,.mov (.tmp 41)⟩,.f)]) (.ret))))))⟩
theorem low19 : lowFunc Try.prog gl0 19 = some lf19 := lowF (by kernel_rfl)
def lf20_B0 : LCode := .block 0 (
  .loop (
   .seq (
    .region [
      ⟨(some 27), none, .bin .lss (.tmp 26) (.tmp 25)⟩]) (
    .seq (
     .cond (.tmp 27) (
      .skip) (
      .exit 0)) (
     .seq (
      .block 1 (
       .seq (
        .region [
          ⟨(some 28), none, .iadr 4 (.tmp 24) (.tmp 26)⟩,
          ⟨(some 29), none, .load 4 true (.tmp 28)⟩,
          ⟨(some 8), none, .newv 4 40 (.cst (.agg [(.p (.bool false)), (.tight []), (.tight []), (.p (.int .i64 0))]))⟩,
          ⟨none, none, .store 4 (.tmp 8) (.tmp 29)⟩]) (
        .seq (
         .region [
           ⟨(some 30), none, .mov (.tmp 1)⟩,
           ⟨(some 31), none, .fadr 3 (.tmp 8)⟩,
           ⟨(some 32), none, .load 1 false (.tmp 31)⟩,
           ⟨(some 33), none, .callv (.tmp 30) [(.tmp 32)]⟩,
           ⟨(some 9), none, .newv 3 25 (.cst (.agg [(.p (.bool false)), (.tight []), (.tight [])]))⟩,
           ⟨none, none, .store 3 (.tmp 9) (.tmp 33)⟩]) (
         .seq (
          .seq (
           .region [
             ⟨(some 34), none, .load 3 true (.tmp 9)⟩,
             ⟨(some 35), none, .call 27 [(.tmp 34)]⟩,
             ⟨(some 36), none, .un .not (.tmp 35)⟩]) (
           .cond (.tmp 36) (
            .seq (
             .region [
               ⟨(some 37), none, .build (.agg [(.p (.bool false)), (.tight []), (.tight [])]) []⟩,
               ⟨none, none, .store 3 (.tmp 4) (.tmp 37)⟩,
               ⟨(some 5), none, .mov (.cst (.p (.int .i64 1)))⟩]) (
             .ret)) (
            .skip))) (
          .region [
            ⟨(some 38), none, .mov (.tmp 6)⟩,
            ⟨(some 39), none, .load 3 true (.tmp 9)⟩,
            ⟨(some 40), none, .buildSl 3 25 (.agg [(.p (.bool false)), (.tight []), (.tight [])]) 1 [(0, (.tmp 39))]⟩,
            ⟨(some 41), none, .app 3 56 25 (.tmp 38) (.tmp 40)⟩,
            ⟨(some 6), none, .mov (.tmp 41)⟩]))))) (
      .region [
        ⟨(some 42), none, .bin .add (.tmp 26) (.cst (.p (.int .i64 1)))⟩,
        ⟨(some 26), none, .mov (.tmp 42)⟩])))))
def lf20_B1 : LCode := .block 2 (
  .loop (
   .seq (
    .region [
      ⟨(some 50), none, .bin .lss (.tmp 49) (.tmp 48)⟩]) (
    .seq (
     .cond (.tmp 50) (
      .skip) (
      .exit 2)) (
     .seq (
      .block 3 (
       .seq (
        .region [
          ⟨(some 51), none, .mov (.tmp 49)⟩,
          ⟨(some 52), none, .iadr 4 (.tmp 47) (.tmp 49)⟩,
          ⟨(some 53), none, .load 4 true (.tmp 52)⟩,
          ⟨(some 12), none, .newv 4 40 (.cst (.agg [(.p (.bool false)), (.tight []), (.tight []), (.p (.int .i64 0))]))⟩,
          ⟨(some 11), none, .mov (.tmp 51)⟩,
          ⟨none, none, .store 4 (.tmp 12) (.tmp 53)⟩]) (
        .seq (
         .regionW [
           (⟨(some 55), none, .fadr 0 (.tmp 12)⟩, .s),
           (⟨(some 56), none, .load 3 true (.tmp 55)⟩, .s),
           (⟨(some 57), none, .mov (.tmp 6)⟩, .f),
           (⟨(some 58), none, .mov (.tmp 11)⟩, .f),
           (⟨(some 59), none, .iadr 3 (.tmp 57) (.tmp 58)⟩, .s),
           (⟨(some 60), none, .load 3 true (.tmp 59)⟩, .s),
           (⟨(some 61), none, .call 28 [(.tmp 56), (.tmp 60)]⟩, .t),
           (⟨(some 54), none, .mov (.tmp 61)⟩, .f),
           (⟨(some 62), none, .ext (.tmp 54) 0⟩, .f),
           (⟨(some 63), none, .ext (.tmp 54) 1⟩, .f),
           (⟨(some 13), none, .newv 3 25 (.cst (.agg [(.p (.bool false)), (.tight []), (.tight [])]))⟩, .s),
           (⟨none, none, .store 3 (.tmp 13) (.tmp 62)⟩, .f),
           (⟨(some 14), none, .mov (.tmp 63)⟩, .f)]) (
         .seq (
          .seq (
           .region [
             ⟨(some 64), none, .mov (.tmp 14)⟩,
             ⟨(some 65), none, .bin .neq (.tmp 64) (.cst (.p (.int .i64 0)))⟩]) (
           .cond (.tmp 65) (
            .seq (
             .region [
               ⟨(some 66), none, .build (.agg [(.p (.bool false)), (.tight []), (.tight [])]) []⟩,
               ⟨(some 67), none, .mov (.tmp 14)⟩,
               ⟨none, none, .store 3 (.tmp 4) (.tmp 66)⟩,
               ⟨(some 5), none, .mov (.tmp 67)⟩]) (
             .ret)) (
            .skip))) (
          .seq (
           .region [
             ⟨(some 69), none, .load 3 true (.tmp 10)⟩,
             ⟨(some 70), none, .load 3 true (.tmp 13)⟩,
             ⟨(some 71), none, .call 24 [(.tmp 69), (.tmp 70)]⟩,
             ⟨(some 68), none, .mov (.tmp 71)⟩,
             ⟨(some 72), none, .ext (.tmp 68) 0⟩,
             ⟨(some 73), none, .ext (.tmp 68) 1⟩,
             ⟨none, none, .store 3 (.tmp 10) (.tmp 72)⟩,
             ⟨(some 14), none, .mov (.tmp 73)⟩]) (
           .seq (
            .region [
              ⟨(some 74), none, .mov (.tmp 14)⟩,
              ⟨(some 75), none, .bin .neq (.tmp 74) (.cst (.p (.int .i64 0)))⟩]) (
            .cond (.tmp 75) (
             .seq (
              .region [
                ⟨(some 76), none, .build (.agg [(.p (.bool false)), (.tight []), (.tight [])]) []⟩,
                ⟨(some 77), none, .mov (.tmp 14)⟩,
                ⟨none, none, .store 3 (.tmp 4) (.tmp 76)⟩,
                ⟨(some 5), none, .mov (.tmp 77)⟩]) (
              .ret)) (
             .skip)))))))) (
      .region [
        ⟨(some 78), none, .bin .add (.tmp 49) (.cst (.p (.int .i64 1)))⟩,
        ⟨(some 49), none, .mov (.tmp 78)⟩])))))
def lf20 : LFunc := ⟨80,[.cell 4 3 true,.slot 5], .seq (.region [⟨some 2,none,.newv 4 27 (.tmp 0)⟩,⟨some 4,none,.newv 3 25 (.cst (.agg [.p (.bool false),.tight [],.tight []]))⟩,⟨some 5,none,.mov (.cst (.p (.int .i64 0)))⟩]) (.seq (.seq (.region [⟨some 15,none,.load 4 true (.tmp 2)⟩,⟨some 16,none,.call 13 [.tmp 15]⟩,⟨some 17,none,.un .not (.tmp 16)⟩,⟨some 18,none,.mov (.tmp 17)⟩,⟨some 19,some (18,false),.mov (.tmp 1)⟩,⟨some 20,some (18,false),.eqN false true (.tmp 19) (.cst (.p .nilf))⟩,⟨some 21,none,.pick (.tmp 18) (.cst (.p (.bool true))) (.tmp 20)⟩]) (.cond (.tmp 21) (.seq (.region [⟨some 22,none,.build (.agg [.p (.bool false),.tight [],.tight []]) []⟩,⟨none,none,.store 3 (.tmp 4) (.tmp 22)⟩,⟨some 5,none,.mov (.cst (.p (.int .i64 1)))⟩]) (.ret)) (.skip))) (.seq (.region [⟨some 6,none,.mov (.cst (.tight []))⟩]) (.seq (.seq (.region [⟨some 23,none,.fadr 0 (.tmp 2)⟩,⟨some 24,none,.load 1 false (.tmp 23)⟩,⟨some 25,none,.len (.tmp 24)⟩,⟨some 26,none,.mov (.cst (.p (.int .i64 0)))⟩]) (lf20_B0)) (.seq (.region [⟨some 43,none,.fadr 1 (.tmp 2)⟩,⟨some 44,none,.load 3 true (.tmp 43)⟩,⟨some 45,none,.call 25 [.tmp 44]⟩,⟨some 10,none,.newv 3 25 (.cst (.agg [.p (.bool false),.tight [],.tight []]))⟩,⟨none,none,.store 3 (.tmp 10) (.tmp 45)⟩]) (.seq (.seq (.region [⟨some 46,none,.fadr 0 (.tmp 2)⟩,⟨some 47,none,.load 1 false (.tmp 46)⟩,⟨some 48,none,.len (.tmp 47)⟩,⟨some 49,none,.mov (.cst (.p (.int .i64 0)))⟩]) (lf20_B1)) (.seq (.region [⟨some 79,none,.load 3 true (.tmp 10)⟩,⟨none,none,.store 3 (.tmp 4) (.tmp 79)⟩,⟨some 5,none,.mov (.cst (.p (.int .i64 0)))⟩]) (.ret)))))))⟩
theorem low20 : lowFunc Try.prog gl0 20 = some lf20 := lowF (by kernel_rfl)
def lf13_B0 : LCode := .block 0 (
  .loop (
   .seq (
    .region [
      ⟨(some 9), none, .bin .lss (.tmp 8) (.tmp 7)⟩]) (
    .seq (
     .cond (.tmp 9) (
      .skip) (
      .exit 0)) (
     .seq (
      .block 1 (
       .seq (
        .region [
          ⟨(some 10), none, .mov (.tmp 8)⟩,
          ⟨(some 11), none, .iadr 4 (.tmp 6) (.tmp 8)⟩,
          ⟨(some 12), none, .load 4 true (.tmp 11)⟩,
          ⟨(some 4), none, .newv 4 40 (.cst (.agg [(.p (.bool false)), (.tight []), (.tight []), (.p (.int .i64 0))]))⟩,
          ⟨(some 3), none, .mov (.tmp 10)⟩,
          ⟨none, none, .store 4 (.tmp 4) (.tmp 12)⟩]) (
        .seq (
         .regionD [
           ⟨(some 13), none, .fadr 3 (.tmp 4)⟩,
           ⟨(some 14), none, .load 1 false (.tmp 13)⟩,
           ⟨(some 15), none, .bin .lss (.tmp 14) (.cst (.p (.int .i64 0)))⟩,
           ⟨(some 16), none, .mov (.tmp 15)⟩,
           ⟨(some 17), (some (16, false)), .mov (.tmp 3)⟩,
           ⟨(some 18), (some (16, false)), .bin .gtr (.tmp 17) (.cst (.p (.int .i64 0)))⟩,
           ⟨(some 19), (some (16, false)), .mov (.tmp 18)⟩,
           ⟨(some 20), (some (19, true)), .fadr 3 (.tmp 4)⟩,
           ⟨(some 21), (some (19, true)), .load 1 false (.tmp 20)⟩,
           ⟨(some 22), (some (19, true)), .fadr 0 (.tmp 1)⟩,
           ⟨(some 23), (some (19, true)), .load 1 false (.tmp 22)⟩,
           ⟨(some 24), (some (19, true)), .mov (.tmp 3)⟩,
           ⟨(some 25), (some (19, true)), .bin .sub (.tmp 24) (.cst (.p (.int .i64 1)))⟩,
           ⟨(some 26), (some (19, true)), .iadr 4 (.tmp 23) (.tmp 25)⟩,
           ⟨(some 27), (some (19, true)), .fadr 3 (.tmp 26)⟩,
           ⟨(some 28), (some (19, true)), .load 1 false (.tmp 27)⟩,
           ⟨(some 29), (some (19, true)), .bin .leq (.tmp 21) (.tmp 28)⟩,
           ⟨(some 30), (some (16, false)), .pick (.tmp 19) (.tmp 29) (.cst (.p (.bool false)))⟩,
           ⟨(some 31), none, .pick (.tmp 16) (.cst (.p (.bool true))) (.tmp 30)⟩,
           ⟨(some 32), none, .mov (.tmp 31)⟩,
           ⟨(some 33), (some (32, false)), .fadr 0 (.tmp 4)⟩,
           ⟨(some 34), (some (32, false)), .load 3 true (.tmp 33)⟩,
           ⟨(some 35), (some (32, false)), .call 27 [(.tmp 34)]⟩,
           ⟨(some 36), (some (32, false)), .un .not (.tmp 35)⟩,
           ⟨(some 37), none, .pick (.tmp 32) (.cst (.p (.bool true))) (.tmp 36)⟩,
           ⟨(some 38), none, .mov (.tmp 37)⟩,
           ⟨(some 39), (some (38, false)), .fadr 0 (.tmp 4)⟩,
           ⟨(some 40), (some (38, false)), .load 3 true (.tmp 39)⟩,
           ⟨(some 41), (some (38, false)), .call 26 [(.tmp 40)]⟩,
           ⟨(some 42), (some (38, false)), .bin .eql (.tmp 41) (.cst (.p (.int .i64 0)))⟩,
           ⟨(some 43), none, .pick (.tmp 38) (.cst (.p (.bool true))) (.tmp 42)⟩]) (
         .cond (.tmp 43) (
          .seq (
           .region [
             ⟨(some 2), none, .mov (.cst (.p (.bool false)))⟩]) (
           .ret)) (
          .skip))))) (
      .region [
        ⟨(some 44), none, .bin .add (.tmp 8) (.cst (.p (.int .i64 1)))⟩,
        ⟨(some 8), none, .mov (.tmp 44)⟩])))))
def lf13 : LFunc := ⟨48,[.slot 2], .seq (.region [⟨some 1,none,.newv 4 27 (.tmp 0)⟩,⟨some 2,none,.mov (.cst (.p (.bool false)))⟩]) (.seq (.seq (.region [⟨some 5,none,.fadr 0 (.tmp 1)⟩,⟨some 6,none,.load 1 false (.tmp 5)⟩,⟨some 7,none,.len (.tmp 6)⟩,⟨some 8,none,.mov (.cst (.p (.int .i64 0)))⟩]) (lf13_B0)) (.seq (.region [⟨some 45,none,.fadr 1 (.tmp 1)⟩,⟨some 46,none,.load 3 true (.tmp 45)⟩,⟨some 47,none,.call 27 [.tmp 46]⟩,⟨some 2,none,.mov (.tmp 47)⟩]) (.ret)))⟩
theorem low13 : lowFunc Try.prog gl0 13 = some lf13 := lowF (by kernel_rfl)
def lf23 : LFunc := ⟨23,[.cell 4 3 true], .seq (.region [⟨some 2,none,.newv 4 27 (.tmp 0)⟩,⟨some 4,none,.newv 3 25 (.cst (.agg [.p (.bool false),.tight [],.tight []]))⟩]) (.seq (.seq (.region [⟨some 6,none,.load 4 true (.tmp 2)⟩,⟨some 7,none,.mov (.tmp 1)⟩,⟨some 8,none,.call 36 [.tmp 6,.tmp 7]⟩,⟨some 5,none,.mov (.tmp 8)⟩]) (.seq (.region [⟨some 9,none,.mov (.tmp 5)⟩,⟨some 10,none,.bin .geq (.tmp 9) (.cst (.p (.int .i64 0)))⟩,⟨some 11,none,.mov (.tmp 10)⟩,⟨some 12,some (11,true),.load 4 true (.tmp 2)⟩,⟨some 13,some (11,true),.call 13 [.tmp 12]⟩,⟨some 14,none,.pick (.tmp 11) (.tmp 13) (.cst (.p (.bool false)))⟩]) (.cond (.tmp 14) (.seq (.region [⟨some 15,none,.fadr 0 (.tmp 2)⟩,⟨some 16,none,.load 1 false (.tmp 15)⟩,⟨some 17,none,.mov (.tmp 5)⟩,⟨some 18,none,.iadr 4 (.tmp 16) (.tmp 17)⟩,⟨some 19,none,.fadr 0 (.tmp 18)⟩,⟨some 20,none,.load 3 true (.tmp 19)⟩,⟨some 21,none,.call 25 [.tmp 20]⟩,⟨none,none,.store 3 (.tmp 4) (.tmp 21)⟩]) (.ret)) (.skip)))) (.seq (.region [⟨some 22,none,.call 41 []⟩,⟨none,none,.store 3 (.tmp 4) (.tmp 22)⟩]) (.ret)))⟩
theorem low23 : lowFunc Try.prog gl0 23 = some lf23 := lowF (by kernel_rfl)
def lf12 : LFunc := ⟨17,[.slot 4], .seq (.region [⟨some 2,none,.newv 4 27 (.tmp 0)⟩,⟨some 3,none,.newv 4 27 (.tmp 1)⟩,⟨some 4,none,.mov (.cst (.p (.bool false)))⟩]) (.seq (.region [⟨some 5,none,.fadr 1 (.tmp 2)⟩,⟨some 6,none,.load 3 true (.tmp 5)⟩,⟨some 7,none,.fadr 1 (.tmp 3)⟩,⟨some 8,none,.load 3 true (.tmp 7)⟩,⟨some 9,none,.call 31 [.tmp 6,.tmp 8]⟩,⟨some 10,none,.mov (.tmp 9)⟩,⟨some 11,some (10,true),.fadr 0 (.tmp 2)⟩,⟨some 12,some (10,true),.load 1 false (.tmp 11)⟩,⟨some 13,some (10,true),.fadr 0 (.tmp 3)⟩,⟨some 14,some (10,true),.load 1 false (.tmp 13)⟩,⟨some 15,some (10,true),.call 32 [.tmp 12,.tmp 14,.cst (.p (.clo 33 []))]⟩,⟨some 16,none,.pick (.tmp 10) (.tmp 15) (.cst (.p (.bool false)))⟩,⟨some 4,none,.mov (.tmp 16)⟩]) (.ret))⟩
theorem low12 : lowFunc Try.prog gl0 12 = some lf12 := lowF (by kernel_rfl)
def lf25 : LFunc := ⟨12,[.cell 2 3 true], .seq (.region [⟨some 1,none,.newv 3 25 (.tmp 0)⟩,⟨some 2,none,.newv 3 25 (.cst (.agg [.p (.bool false),.tight [],.tight []]))⟩]) (.seq (.regionW [(⟨some 3,none,.fadr 0 (.tmp 1)⟩,.s),(⟨some 4,none,.load 1 false (.tmp 3)⟩,.s),(⟨some 5,none,.fadr 1 (.tmp 1)⟩,.f),(⟨some 6,none,.load 1 false (.tmp 5)⟩,.f),(⟨some 7,none,.call 48 [.tmp 6]⟩,.s),(⟨some 8,none,.fadr 2 (.tmp 1)⟩,.s),(⟨some 9,none,.load 1 false (.tmp 8)⟩,.s),(⟨some 10,none,.call 48 [.tmp 9]⟩,.s),(⟨some 11,none,.build (.agg [.p (.bool false),.tight [],.tight []]) [(0,1,(.tmp 4)),(1,1,(.tmp 7)),(2,1,(.tmp 10))]⟩,.f),(⟨none,none,.store 3 (.tmp 2) (.tmp 11)⟩,.f)]) (.ret))⟩
theorem low25 : lowFunc Try.prog gl0 25 = some lf25 := lowF (by kernel_rfl)
def lf36 : LFunc := ⟨9,[.slot 4], .seq (.region [⟨some 2,none,.newv 4 27 (.tmp 0)⟩,⟨some 3,none,.newv 1 3 (.tmp 1)⟩,⟨some 4,none,.mov (.cst (.p (.int .i64 0)))⟩]) (.seq (.region [⟨some 5,none,.fadr 0 (.tmp 2)⟩,⟨some 6,none,.load 1 false (.tmp 5)⟩,⟨some 7,none,.mkf 64 [.tmp 3]⟩,⟨some 8,none,.call 63 [.tmp 6,.tmp 7]⟩,⟨some 4,none,.mov (.tmp 8)⟩]) (.ret))⟩
theorem low36 : lowFunc Try.prog gl0 36 = some lf36 := lowF (by kernel_rfl)
def lf39 : LFunc := ⟨22,[.cell 4 4 true], .seq (.region [⟨some 2,none,.newv 4 27 (.tmp 0)⟩,⟨some 4,none,.newv 4 27 (.cst (.agg [.tight [],.p (.bool false),.tight [],.tight []]))⟩]) (.seq (.region [⟨some 6,none,.load 4 true (.tmp 2)⟩,⟨some 7,none,.mov (.tmp 1)⟩,⟨some 8,none,.call 36 [.tmp 6,.tmp 7]⟩,⟨some 5,none,.mov (.tmp 8)⟩]) (.seq (.seq (.region [⟨some 9,none,.mov (.tmp 5)⟩,⟨some 10,none,.bin .lss (.tmp 9) (.cst (.p (.int .i64 0)))⟩]) (.cond (.tmp 10) (.seq (.region [⟨some 11,none,.load 4 true (.tmp 2)⟩,⟨none,none,.store 4 (.tmp 4) (.tmp 11)⟩]) (.ret)) (.skip))) (.seq (.regionW [(⟨some 12,none,.fadr 0 (.tmp 2)⟩,.f),(⟨some 13,none,.load 1 false (.tmp 12)⟩,.f),(⟨some 14,none,.call 68 [.tmp 13]⟩,.s),(⟨some 15,none,.mov (.tmp 5)⟩,.f),(⟨some 16,none,.mov (.tmp 5)⟩,.f),(⟨some 17,none,.bin .add (.tmp 16) (.cst (.p (.int .i64 1)))⟩,.f),(⟨some 18,none,.call 67 [.tmp 14,.tmp 15,.tmp 17]⟩,.s),(⟨some 19,none,.fadr 1 (.tmp 2)⟩,.s),(⟨some 20,none,.load 3 true (.tmp 19)⟩,.s),(⟨some 21,none,.build (.agg [.tight [],.p (.bool false),.tight [],.tight []]) [(0,1,(.tmp 18)),(1,3,(.tmp 20))]⟩,.f),(⟨none,none,.store 4 (.tmp 4) (.tmp 21)⟩,.f)]) (.ret))))⟩
theorem low39 : lowFunc Try.prog gl0 39 = some lf39 := lowF (by kernel_rfl)
def lf31 : LFunc := ⟨24,[.slot 4], .seq (.region [⟨some 2,none,.newv 3 25 (.tmp 0)⟩,⟨some 3,none,.newv 3 25 (.tmp 1)⟩,⟨some 4,none,.mov (.cst (.p (.bool false)))⟩]) (.seq (.region [⟨some 5,none,.fadr 0 (.tmp 2)⟩,⟨some 6,none,.load 1 false (.tmp 5)⟩,⟨some 7,none,.fadr 0 (.tmp 3)⟩,⟨some 8,none,.load 1 false (.tmp 7)⟩,⟨some 9,none,.eqB false (.tmp 6) (.tmp 8)⟩,⟨some 10,none,.mov (.tmp 9)⟩,⟨some 11,some (10,true),.fadr 1 (.tmp 2)⟩,⟨some 12,some (10,true),.load 1 false (.tmp 11)⟩,⟨some 13,some (10,true),.fadr 1 (.tmp 3)⟩,⟨some 14,some (10,true),.load 1 false (.tmp 13)⟩,⟨some 15,some (10,true),.call 58 [.tmp 12,.tmp 14]⟩,⟨some 16,none,.pick (.tmp 10) (.tmp 15) (.cst (.p (.bool false)))⟩,⟨some 17,none,.mov (.tmp 16)⟩,⟨some 18,some (17,true),.fadr 2 (.tmp 2)⟩,⟨some 19,some (17,true),.load 1 false (.tmp 18)⟩,⟨some 20,some (17,true),.fadr 2 (.tmp 3)⟩,⟨some 21,some (17,true),.load 1 false (.tmp 20)⟩,⟨some 22,some (17,true),.call 58 [.tmp 19,.tmp 21]⟩,⟨some 23,none,.pick (.tmp 17) (.tmp 22) (.cst (.p (.bool false)))⟩,⟨some 4,none,.mov (.tmp 23)⟩]) (.ret))⟩
theorem low31 : lowFunc Try.prog gl0 31 = some lf31 := lowF (by kernel_rfl)
def lf33 : LFunc := ⟨17,[.slot 4], .seq (.region [⟨some 2,none,.newv 4 40 (.tmp 0)⟩,⟨some 3,none,.newv 4 40 (.tmp 1)⟩,⟨some 4,none,.mov (.cst (.p (.bool false)))⟩]) (.seq (.region [⟨some 5,none,.fadr 3 (.tmp 2)⟩,⟨some 6,none,.load 1 false (.tmp 5)⟩,⟨some 7,none,.fadr 3 (.tmp 3)⟩,⟨some 8,none,.load 1 false (.tmp 7)⟩,⟨some 9,none,.bin .eql (.tmp 6) (.tmp 8)⟩,⟨some 10,none,.mov (.tmp 9)⟩,⟨some 11,some (10,true),.fadr 0 (.tmp 2)⟩,⟨some 12,some (10,true),.load 3 true (.tmp 11)⟩,⟨some 13,some (10,true),.fadr 0 (.tmp 3)⟩,⟨some 14,some (10,true),.load 3 true (.tmp 13)⟩,⟨some 15,some (10,true),.call 31 [.tmp 12,.tmp 14]⟩,⟨some 16,none,.pick (.tmp 10) (.tmp 15) (.cst (.p (.bool false)))⟩,⟨some 4,none,.mov (.tmp 16)⟩]) (.ret))⟩
theorem low33 : lowFunc Try.prog gl0 33 = some lf33 := lowF (by kernel_rfl)
def lf64 : LFunc := ⟨8,[.slot 3], .seq (.region [⟨some 2,none,.newv 4 40 (.tmp 0)⟩,⟨some 3,none,.mov (.cst (.p (.bool false)))⟩]) (.seq (.region [⟨some 4,none,.fadr 3 (.tmp 2)⟩,⟨some 5,none,.load 1 false (.tmp 4)⟩,⟨some 6,none,.load 1 false (.tmp 1)⟩,⟨some 7,none,.bin .eql (.tmp 5) (.tmp 6)⟩,⟨some 3,none,.mov (.tmp 7)⟩]) (.ret))⟩
theorem low64 : lowFunc Try.prog gl0 64 = some lf64 := lowF (by kernel_rfl)
def lf63_B0 : LCode := .block 0 (
  .loop (
   .seq (
    .region [
      ⟨(some 9), none, .bin .lss (.tmp 8) (.tmp 7)⟩]) (
    .seq (
     .cond (.tmp 9) (
      .skip) (
      .exit 0)) (
     .seq (
      .block 1 (
       .seq (
        .region [
          ⟨(some 10), none, .mov (.tmp 8)⟩,
          ⟨(some 5), none, .mov (.tmp 10)⟩]) (
        .seq (
         .region [
           ⟨(some 11), none, .mov (.tmp 1)⟩,
           ⟨(some 12), none, .mov (.tmp 0)⟩,
           ⟨(some 13), none, .mov (.tmp 5)⟩,
           ⟨(some 14), none, .iadr 4 (.tmp 12) (.tmp 13)⟩,
           ⟨(some 15), none, .load 4 true (.tmp 14)⟩,
           ⟨(some 16), none, .callv (.tmp 11) [(.tmp 15)]⟩]) (
         .cond (.tmp 16) (
          .seq (
           .region [
             ⟨(some 17), none, .mov (.tmp 5)⟩,
             ⟨(some 4), none, .mov (.tmp 17)⟩]) (
           .ret)) (
          .skip))))) (
      .region [
        ⟨(some 18), none, .bin .add (.tmp 8) (.cst (.p (.int .i64 1)))⟩,
        ⟨(some 8), none, .mov (.tmp 18)⟩])))))
def lf63 : LFunc := ⟨19,[.slot 4], .seq (.region [⟨some 4,none,.mov (.cst (.p (.int .i64 0)))⟩]) (.seq (.seq (.region [⟨some 6,none,.mov (.tmp 0)⟩,⟨some 7,none,.len (.tmp 6)⟩,⟨some 8,none,.mov (.cst (.p (.int .i64 0)))⟩]) (lf63_B0)) (.seq (.region [⟨some 4,none,.mov (.cst (.p (.int .i64 (-1))))⟩]) (.ret)))⟩
theorem low63 : lowFunc Try.prog gl0 63 = some lf63 := lowF (by kernel_rfl)
def lf67 : LFunc := ⟨33,[.slot 6], .seq (.region [⟨some 6,none,.mov (.cst (.tight []))⟩]) (.seq (.region [⟨some 8,none,.mov (.tmp 0)⟩,⟨some 9,none,.mov (.tmp 1)⟩,⟨some 10,none,.mov (.tmp 2)⟩,⟨some 11,none,.mov (.tmp 0)⟩,⟨some 12,none,.len (.tmp 11)⟩,⟨some 13,none,.slSl 4 (.tmp 8) (some (.tmp 9)) (some (.tmp 10)) (some (.tmp 12))⟩]) (.seq (.seq (.region [⟨some 14,none,.mov (.tmp 1)⟩,⟨some 15,none,.mov (.tmp 2)⟩,⟨some 16,none,.bin .eql (.tmp 14) (.tmp 15)⟩]) (.cond (.tmp 16) (.seq (.region [⟨some 17,none,.mov (.tmp 0)⟩,⟨some 6,none,.mov (.tmp 17)⟩]) (.ret)) (.skip))) (.seq (.region [⟨some 18,none,.mov (.tmp 0)⟩,⟨some 19,none,.len (.tmp 18)⟩,⟨some 7,none,.mov (.tmp 19)⟩]) (.seq (.regionW [(⟨some 20,none,.mov (.tmp 0)⟩,.f),(⟨some 21,none,.mov (.tmp 1)⟩,.f),(⟨some 22,none,.slSl 4 (.tmp 20) none (some (.tmp 21)) none⟩,.f),(⟨some 23,none,.mov (.tmp 0)⟩,.f),(⟨some 24,none,.mov (.tmp 2)⟩,.f),(⟨some 25,none,.slSl 4 (.tmp 23) (some (.tmp 24)) none none⟩,.f),(⟨some 26,none,.app 4 64 40 (.tmp 22) (.tmp 25)⟩,.f),(⟨some 0,none,.mov (.tmp 26)⟩,.f)]) (.seq (.region [⟨some 27,none,.mov (.tmp 0)⟩,⟨some 28,none,.mov (.tmp 0)⟩,⟨some 29,none,.len (.tmp 28)⟩,⟨some 30,none,.mov (.tmp 7)⟩,⟨some 31,none,.slSl 4 (.tmp 27) (some (.tmp 29)) (some (.tmp 30)) none⟩,⟨none,none,.clr 4 (.agg [.p (.bool false),.tight [],.tight [],.p (.int .i64 0)]) (.tmp 31)⟩]) (.seq (.region [⟨some 32,none,.mov (.tmp 0)⟩,⟨some 6,none,.mov (.tmp 32)⟩]) (.ret)))))))⟩
theorem low67 : lowFunc Try.prog gl0 67 = some lf67 := lowF (by kernel_rfl)
def lf68 : LFunc := ⟨8,[.slot 2], .seq (.region [⟨some 2,none,.mov (.cst (.tight []))⟩]) (.seq (.seq (.region [⟨some 3,none,.mov (.tmp 0)⟩,⟨some 4,none,.eqS false (.tmp 3) (.cst (.tight []))⟩]) (.cond (.tmp 4) (.seq (.region [⟨some 2,none,.mov (.cst (.tight []))⟩]) (.ret)) (.skip))) (.seq (.region [⟨some 5,none,.buildSl 4 40 (.agg [.p (.bool false),.tight [],.tight [],.p (.int .i64 0)]) 0 []⟩,⟨some 6,none,.mov (.tmp 0)⟩,⟨some 7,none,.app 4 64 40 (.tmp 5) (.tmp 6)⟩,⟨some 2,none,.mov (.tmp 7)⟩]) (.ret)))⟩
theorem low68 : lowFunc Try.prog gl0 68 = some lf68 := lowF (by kernel_rfl)
def lf58_B0 : LCode := .block 0 (
  .loop (
   .seq (
    .region [
      ⟨(some 14), none, .bin .lss (.tmp 13) (.tmp 12)⟩]) (
    .seq (
     .cond (.tmp 14) (
      .skip) (
      .exit 0)) (
     .seq (
      .block 1 (
       .seq (
        .region [
          ⟨(some 15), none, .mov (.tmp 13)⟩,
          ⟨(some 5), none, .mov (.tmp 15)⟩]) (
        .seq (
         .regionD [
           ⟨(some 16), none, .mov (.tmp 0)⟩,
           ⟨(some 17), none, .mov (.tmp 5)⟩,
           ⟨(some 18), none, .iadr 1 (.tmp 16) (.tmp 17)⟩,
           ⟨(some 19), none, .load 1 false (.tmp 18)⟩,
           ⟨(some 20), none, .mov (.tmp 1)⟩,
           ⟨(some 21), none, .mov (.tmp 5)⟩,
           ⟨(some 22), none, .iadr 1 (.tmp 20) (.tmp 21)⟩,
           ⟨(some 23), none, .load 1 false (.tmp 22)⟩,
           ⟨(some 24), none, .bin .neq (.tmp 19) (.tmp 23)⟩]) (
         .cond (.tmp 24) (
          .seq (
           .region [
             ⟨(some 4), none, .mov (.cst (.p (.bool false)))⟩]) (
           .ret)) (
          .skip))))) (
      .region [
        ⟨(some 25), none, .bin .add (.tmp 13) (.cst (.p (.int .i64 1)))⟩,
        ⟨(some 13), none, .mov (.tmp 25)⟩])))))
def lf58 : LFunc := ⟨26,[.slot 4], .seq (.region [⟨some 4,none,.mov (.cst (.p (.bool false)))⟩]) (.seq (.seq (.region [⟨some 6,none,.mov (.tmp 0)⟩,⟨some 7,none,.len (.tmp 6)⟩,⟨some 8,none,.mov (.tmp 1)⟩,⟨some 9,none,.len (.tmp 8)⟩,⟨some 10,none,.bin .neq (.tmp 7) (.tmp 9)⟩]) (.cond (.tmp 10) (.seq (.region [⟨some 4,none,.mov (.cst (.p (.bool false)))⟩]) (.ret)) (.skip))) (.seq (.seq (.region [⟨some 11,none,.mov (.tmp 0)⟩,⟨some 12,none,.len (.tmp 11)⟩,⟨some 13,none,.mov (.cst (.p (.int .i64 0)))⟩]) (lf58_B0)) (.seq (.region [⟨some 4,none,.mov (.cst (.p (.bool true)))⟩]) (.ret))))⟩
theorem low58 : lowFunc Try.prog gl0 58 = some lf58 := lowF (by kernel_rfl)
def lf32_B0 : LCode := .block 0 (
  .loop (
   .seq (
    .region [
      ⟨(some 18), none, .bin .lss (.tmp 17) (.tmp 16)⟩]) (
    .seq (
     .cond (.tmp 18) (
      .skip) (
      .exit 0)) (
     .seq (
      .block 1 (
       .seq (
        .region [
          ⟨(some 19), none, .mov (.tmp 17)⟩,
          ⟨(some 20), none, .iadr 4 (.tmp 15) (.tmp 17)⟩,
          ⟨(some 21), none, .load 4 true (.tmp 20)⟩,
          ⟨(some 8), none, .newv 4 40 (.cst (.agg [(.p (.bool false)), (.tight []), (.tight []), (.p (.int .i64 0))]))⟩,
          ⟨(some 7), none, .mov (.tmp 19)⟩,
          ⟨none, none, .store 4 (.tmp 8) (.tmp 21)⟩]) (
        .seq (
         .region [
           ⟨(some 22), none, .mov (.tmp 1)⟩,
           ⟨(some 23), none, .mov (.tmp 7)⟩,
           ⟨(some 24), none, .iadr 4 (.tmp 22) (.tmp 23)⟩,
           ⟨(some 25), none, .load 4 true (.tmp 24)⟩,
           ⟨(some 9), none, .newv 4 40 (.cst (.agg [(.p (.bool false)), (.tight []), (.tight []), (.p (.int .i64 0))]))⟩,
           ⟨none, none, .store 4 (.tmp 9) (.tmp 25)⟩]) (
         .seq (
          .region [
            ⟨(some 26), none, .mov (.tmp 2)⟩,
            ⟨(some 27), none, .load 4 true (.tmp 8)⟩,
            ⟨(some 28), none, .load 4 true (.tmp 9)⟩,
            ⟨(some 29), none, .callv (.tmp 26) [(.tmp 27), (.tmp 28)]⟩,
            ⟨(some 30), none, .un .not (.tmp 29)⟩]) (
          .cond (.tmp 30) (
           .seq (
            .region [
              ⟨(some 6), none, .mov (.cst (.p (.bool false)))⟩]) (
            .ret)) (
           .skip)))))) (
      .region [
        ⟨(some 31), none, .bin .add (.tmp 17) (.cst (.p (.int .i64 1)))⟩,
        ⟨(some 17), none, .mov (.tmp 31)⟩])))))
def lf32 : LFunc := ⟨32,[.slot 6], .seq (.region [⟨some 6,none,.mov (.cst (.p (.bool false)))⟩]) (.seq (.seq (.region [⟨some 10,none,.mov (.tmp 0)⟩,⟨some 11,none,.len (.tmp 10)⟩,⟨some 12,none,.mov (.tmp 1)⟩,⟨some 13,none,.len (.tmp 12)⟩,⟨some 14,none,.bin .neq (.tmp 11) (.tmp 13)⟩]) (.cond (.tmp 14) (.seq (.region [⟨some 6,none,.mov (.cst (.p (.bool false)))⟩]) (.ret)) (.skip))) (.seq (.seq (.region [⟨some 15,none,.mov (.tmp 0)⟩,⟨some 16,none,.len (.tmp 15)⟩,⟨some 17,none,.mov (.cst (.p (.int .i64 0)))⟩]) (lf32_B0)) (.seq (.region [⟨some 6,none,.mov (.cst (.p (.bool true)))⟩]) (.ret))))⟩
theorem low32 : lowFunc Try.prog gl0 32 = some lf32 := lowF (by kernel_rfl)
def lf4_B0 : LCode := .block 0 (
  .loop (
   .seq (
    .seq (
     .region [
       ⟨(some 4), none, .mov (.tmp 3)⟩,
       ⟨(some 5), none, .fadr 0 (.tmp 1)⟩,
       ⟨(some 6), none, .load 1 false (.tmp 5)⟩,
       ⟨(some 7), none, .len (.tmp 6)⟩,
       ⟨(some 8), none, .bin .lss (.tmp 4) (.tmp 7)⟩,
       ⟨(some 9), none, .mov (.tmp 8)⟩,
       ⟨(some 10), (some (9, true)), .mov (.tmp 3)⟩,
       ⟨(some 11), (some (9, true)), .bin .lss (.tmp 10) (.cst (.p (.int .i64 12)))⟩,
       ⟨(some 12), none, .pick (.tmp 9) (.tmp 11) (.cst (.p (.bool false)))⟩]) (
     .cond (.tmp 12) (
      .skip) (
      .exit 0))) (
    .seq (
     .block 1 (
      .seq (
       .region [
         ⟨(some 15), none, .fadr 0 (.tmp 1)⟩,
         ⟨(some 16), none, .load 1 false (.tmp 15)⟩,
         ⟨(some 17), none, .mov (.tmp 3)⟩,
         ⟨(some 18), none, .iadr 4 (.tmp 16) (.tmp 17)⟩,
         ⟨(some 19), none, .fadr 0 (.tmp 18)⟩,
         ⟨(some 20), none, .load 3 true (.tmp 19)⟩,
         ⟨(some 21), none, .call 5 [(.tmp 20)]⟩,
         ⟨(some 22), none, .un .not (.tmp 21)⟩]) (
       .cond (.tmp 22) (
        .seq (
         .region [
           ⟨(some 2), none, .mov (.cst (.p (.bool false)))⟩]) (
         .ret)) (
        .skip)))) (
     .region [
       ⟨(some 13), none, .mov (.tmp 3)⟩,
       ⟨(some 14), none, .bin .add (.tmp 13) (.cst (.p (.int .i64 1)))⟩,
       ⟨(some 3), none, .mov (.tmp 14)⟩]))))
def lf4 : LFunc := ⟨32,[.slot 2], .seq (.region [⟨some 1,none,.newv 4 27 (.tmp 0)⟩,⟨some 2,none,.mov (.cst (.p (.bool false)))⟩]) (.seq (.seq (.region [⟨some 3,none,.mov (.cst (.p (.int .i64 0)))⟩]) (lf4_B0)) (.seq (.region [⟨some 23,none,.fadr 0 (.tmp 1)⟩,⟨some 24,none,.load 1 false (.tmp 23)⟩,⟨some 25,none,.len (.tmp 24)⟩,⟨some 26,none,.bin .leq (.tmp 25) (.cst (.p (.int .i64 10)))⟩,⟨some 27,none,.mov (.tmp 26)⟩,⟨some 28,some (27,true),.fadr 1 (.tmp 1)⟩,⟨some 29,some (27,true),.load 3 true (.tmp 28)⟩,⟨some 30,some (27,true),.call 5 [.tmp 29]⟩,⟨some 31,none,.pick (.tmp 27) (.tmp 30) (.cst (.p (.bool false)))⟩,⟨some 2,none,.mov (.tmp 31)⟩]) (.ret)))⟩
theorem low4 : lowFunc Try.prog gl0 4 = some lf4 := lowF (by kernel_rfl)
def lf5 : LFunc := ⟨13,[.slot 2], .seq (.region [⟨some 1,none,.newv 3 25 (.tmp 0)⟩,⟨some 2,none,.mov (.cst (.p (.bool false)))⟩]) (.seq (.region [⟨some 3,none,.fadr 1 (.tmp 1)⟩,⟨some 4,none,.load 1 false (.tmp 3)⟩,⟨some 5,none,.len (.tmp 4)⟩,⟨some 6,none,.bin .leq (.tmp 5) (.cst (.p (.int .i64 8)))⟩,⟨some 7,none,.mov (.tmp 6)⟩,⟨some 8,some (7,true),.fadr 2 (.tmp 1)⟩,⟨some 9,some (7,true),.load 1 false (.tmp 8)⟩,⟨some 10,some (7,true),.len (.tmp 9)⟩,⟨some 11,some (7,true),.bin .leq (.tmp 10) (.cst (.p (.int .i64 8)))⟩,⟨some 12,none,.pick (.tmp 7) (.tmp 11) (.cst (.p (.bool false)))⟩,⟨some 2,none,.mov (.tmp 12)⟩]) (.ret))⟩
theorem low5 : lowFunc Try.prog gl0 5 = some lf5 := lowF (by kernel_rfl)
end Go.Proofs.Ytepfpgnjpkcgmaa

/-
  The lowered code of the functions, as the program's form has it.
-/
namespace Go.Proofs.Ytepfpgnjpkcgmaa
open Go Go.Abs
def lf3 : LFunc := ⟨175,[.slot 6], .seq (.region [⟨some 3,none,.newv 4 27 (.tmp 0)⟩,⟨some 4,none,.newv 4 27 (.tmp 1)⟩,⟨some 5,none,.newv 3 25 (.tmp 2)⟩,⟨some 6,none,.mov (.cst (.p (.bool false)))⟩]) (.seq (.seq (.region [⟨some 23,none,.load 4 true (.tmp 3)⟩,⟨some 24,none,.call 4 [.tmp 23]⟩,⟨some 25,none,.un .not (.tmp 24)⟩,⟨some 26,none,.mov (.tmp 25)⟩,⟨some 27,some (26,false),.load 4 true (.tmp 4)⟩,⟨some 28,some (26,false),.call 4 [.tmp 27]⟩,⟨some 29,some (26,false),.un .not (.tmp 28)⟩,⟨some 30,none,.pick (.tmp 26) (.cst (.p (.bool true))) (.tmp 29)⟩,⟨some 31,none,.mov (.tmp 30)⟩,⟨some 32,some (31,false),.load 3 true (.tmp 5)⟩,⟨some 33,some (31,false),.call 5 [.tmp 32]⟩,⟨some 34,some (31,false),.un .not (.tmp 33)⟩,⟨some 35,none,.pick (.tmp 31) (.cst (.p (.bool true))) (.tmp 34)⟩,⟨some 36,none,.mov (.tmp 35)⟩,⟨some 37,some (36,false),.load 4 true (.tmp 3)⟩,⟨some 38,some (36,false),.call 6 [.tmp 37]⟩,⟨some 39,some (36,false),.un .not (.tmp 38)⟩,⟨some 40,none,.pick (.tmp 36) (.cst (.p (.bool true))) (.tmp 39)⟩,⟨some 41,none,.mov (.tmp 40)⟩,⟨some 42,some (41,false),.load 4 true (.tmp 4)⟩,⟨some 43,some (41,false),.call 6 [.tmp 42]⟩,⟨some 44,some (41,false),.un .not (.tmp 43)⟩,⟨some 45,none,.pick (.tmp 41) (.cst (.p (.bool true))) (.tmp 44)⟩,⟨some 46,none,.mov (.tmp 45)⟩,⟨some 47,some (46,false),.load 3 true (.tmp 5)⟩,⟨some 48,some (46,false),.call 7 [.tmp 47]⟩,⟨some 49,some (46,false),.un .not (.tmp 48)⟩,⟨some 50,none,.pick (.tmp 46) (.cst (.p (.bool true))) (.tmp 49)⟩]) (.cond (.tmp 50) (.seq (.region [⟨some 51,none,.call 8 []⟩,⟨some 6,none,.mov (.tmp 51)⟩]) (.ret)) (.skip))) (.seq (.region [⟨some 53,none,.load 4 true (.tmp 3)⟩,⟨some 54,none,.load 4 true (.tmp 4)⟩,⟨some 55,none,.call 9 [.tmp 53,.tmp 54]⟩,⟨some 52,none,.mov (.tmp 55)⟩,⟨some 56,none,.ext (.tmp 52) 0⟩,⟨some 57,none,.ext (.tmp 52) 1⟩,⟨some 7,none,.newv 4 27 (.cst (.agg [.tight [],.p (.bool false),.tight [],.tight []]))⟩,⟨none,none,.store 4 (.tmp 7) (.tmp 56)⟩,⟨some 8,none,.mov (.tmp 57)⟩]) (.seq (.region
 [⟨some 59,none,.load 4 true (.tmp 4)⟩,⟨some 60,none,.load 4 true (.tmp 3)⟩,⟨some 61,none,.call 9 [.tmp 59,.tmp 60]⟩,⟨some 58,none,.mov (.tmp 61)⟩,⟨some 62,none,.ext (.tmp 58) 0⟩,⟨some 63,none,.ext (.tmp 58) 1⟩,⟨some 9,none,.newv 4 27 (.cst (.agg [.tight [],.p (.bool false),.tight [],.tight []]))⟩,⟨none,none,.store 4 (.tmp 9) (.tmp 62)⟩,⟨some 10,none,.mov (.tmp 63)⟩]) (.seq (.region [⟨some 65,none,.load 4 true (.tmp 7)⟩,⟨some 66,none,.load 3 true (.tmp 5)⟩,⟨some 67,none,.call 10 [.tmp 65,.tmp 66]⟩,⟨some 64,none,.mov (.tmp 67)⟩,⟨some 68,none,.ext (.tmp 64) 0⟩,⟨some 69,none,.ext (.tmp 64) 1⟩,⟨some 11,none,.newv 4 27 (.cst (.agg [.tight [],.p (.bool false),.tight [],.tight []]))⟩,⟨none,none,.store 4 (.tmp 11) (.tmp 68)⟩,⟨some 12,none,.mov (.tmp 69)⟩]) (.seq (.region [⟨some 71,none,.load 4 true (.tmp 3)⟩,⟨some 72,none,.load 3 true (.tmp 5)⟩,⟨some 73,none,.call 10 [.tmp 71,.tmp 72]⟩,⟨some 70,none,.mov (.tmp 73)⟩,⟨some 74,none,.ext (.tmp 70) 0⟩,⟨some 75,none,.ext (.tmp 70) 1⟩,⟨some 13,none,.newv 4 27 (.cst (.agg [.tight [],.p (.bool false),.tight [],.tight []]))⟩,⟨none,none,.store 4 (.tmp 13) (.tmp 74)⟩,⟨some 14,none,.mov (.tmp 75)⟩]) (.seq (.region [⟨some 77,none,.load 4 true (.tmp 4)⟩,⟨some 78,none,.load 3 true (.tmp 5)⟩,⟨some 79,none,.call 10 [.tmp 77,.tmp 78]⟩,⟨some 76,none,.mov (.tmp 79)⟩,⟨some 80,none,.ext (.tmp 76) 0⟩,⟨some 81,none,.ext (.tmp 76) 1⟩,⟨some 15,none,.newv 4 27 (.cst (.agg [.tight [],.p (.bool false),.tight [],.tight []]))⟩,⟨none,none,.store 4 (.tmp 15) (.tmp 80)⟩,⟨some 16,none,.mov (.tmp 81)⟩]) (.seq (.region [⟨some 83,none,.load 4 true (.tmp 13)⟩,⟨some 84,none,.load 4 true (.tmp 15)⟩,⟨some 85,none,.call 9 [.tmp 83,.tmp 84]⟩,⟨some 82,none,.mov (.tmp 85)⟩,⟨some 86,none,.ext (.tmp 82) 0⟩,⟨some 87,none,.ext (.tmp 82) 1⟩,⟨some 17,none,.newv 4 27 (.cst (.agg [.tight [],.p (.bool false),.tight [],.tight []]))⟩,⟨none,none,.store 4 (.tmp 17) (.tmp 86)⟩,⟨some 18,none,.mov (.tmp 87)⟩]) (.seq (.regionW [(⟨some 89,none,.load 4 true (.tmp 3)⟩,.s),(⟨some
 90,none,.call 11 [.cst (.p (.int .i64 (-1))),.cst (.p (.int .i64 1))]⟩,.t),(⟨some 91,none,.call 10 [.tmp 89,.tmp 90]⟩,.t),(⟨some 88,none,.mov (.tmp 91)⟩,.f),(⟨some 92,none,.ext (.tmp 88) 0⟩,.f),(⟨some 93,none,.ext (.tmp 88) 1⟩,.f),(⟨some 19,none,.newv 4 27 (.cst (.agg [.tight [],.p (.bool false),.tight [],.tight []]))⟩,.s),(⟨none,none,.store 4 (.tmp 19) (.tmp 92)⟩,.f),(⟨some 20,none,.mov (.tmp 93)⟩,.f)]) (.seq (.region [⟨some 95,none,.load 4 true (.tmp 3)⟩,⟨some 96,none,.load 4 true (.tmp 19)⟩,⟨some 97,none,.call 9 [.tmp 95,.tmp 96]⟩,⟨some 94,none,.mov (.tmp 97)⟩,⟨some 98,none,.ext (.tmp 94) 0⟩,⟨some 99,none,.ext (.tmp 94) 1⟩,⟨some 21,none,.newv 4 27 (.cst (.agg [.tight [],.p (.bool false),.tight [],.tight []]))⟩,⟨none,none,.store 4 (.tmp 21) (.tmp 98)⟩,⟨some 22,none,.mov (.tmp 99)⟩]) (.seq (.seq (.region [⟨some 100,none,.mov (.tmp 8)⟩,⟨some 101,none,.bin .neq (.tmp 100) (.cst (.p (.int .i64 0)))⟩,⟨some 102,none,.mov (.tmp 101)⟩,⟨some 103,some (102,false),.mov (.tmp 10)⟩,⟨some 104,some (102,false),.bin .neq (.tmp 103) (.cst (.p (.int .i64 0)))⟩,⟨some 105,none,.pick (.tmp 102) (.cst (.p (.bool true))) (.tmp 104)⟩,⟨some 106,none,.mov (.tmp 105)⟩,⟨some 107,some (106,false),.mov (.tmp 12)⟩,⟨some 108,some (106,false),.bin .neq (.tmp 107) (.cst (.p (.int .i64 0)))⟩,⟨some 109,none,.pick (.tmp 106) (.cst (.p (.bool true))) (.tmp 108)⟩,⟨some 110,none,.mov (.tmp 109)⟩,⟨some 111,some (110,false),.mov (.tmp 14)⟩,⟨some 112,some (110,false),.bin .neq (.tmp 111) (.cst (.p (.int .i64 0)))⟩,⟨some 113,none,.pick (.tmp 110) (.cst (.p (.bool true))) (.tmp 112)⟩,⟨some 114,none,.mov (.tmp 113)⟩,⟨some 115,some (114,false),.mov (.tmp 16)⟩,⟨some 116,some (114,false),.bin .neq (.tmp 115) (.cst (.p (.int .i64 0)))⟩,⟨some 117,none,.pick (.tmp 114) (.cst (.p (.bool true))) (.tmp 116)⟩,⟨some 118,none,.mov (.tmp 117)⟩,⟨some 119,some (118,false),.mov (.tmp 18)⟩,⟨some 120,some (118,false),.bin .neq (.tmp 119) (.cst (.p (.int .i64 0)))⟩,⟨some 121,none,.pick (.tmp 118) (.cst (.p (.bool true))) (.tmp
 120)⟩,⟨some 122,none,.mov (.tmp 121)⟩,⟨some 123,some (122,false),.mov (.tmp 20)⟩,⟨some 124,some (122,false),.bin .neq (.tmp 123) (.cst (.p (.int .i64 0)))⟩,⟨some 125,none,.pick (.tmp 122) (.cst (.p (.bool true))) (.tmp 124)⟩,⟨some 126,none,.mov (.tmp 125)⟩,⟨some 127,some (126,false),.mov (.tmp 22)⟩,⟨some 128,some (126,false),.bin .neq (.tmp 127) (.cst (.p (.int .i64 0)))⟩,⟨some 129,none,.pick (.tmp 126) (.cst (.p (.bool true))) (.tmp 128)⟩]) (.cond (.tmp 129) (.seq (.region [⟨some 130,none,.mov (.tmp 8)⟩,⟨some 131,none,.bin .eql (.tmp 130) (.cst (.p (.int .i64 4)))⟩,⟨some 132,none,.mov (.tmp 131)⟩,⟨some 133,some (132,false),.mov (.tmp 12)⟩,⟨some 134,some (132,false),.bin .eql (.tmp 133) (.cst (.p (.int .i64 4)))⟩,⟨some 135,none,.pick (.tmp 132) (.cst (.p (.bool true))) (.tmp 134)⟩,⟨some 136,none,.mov (.tmp 135)⟩,⟨some 137,some (136,false),.mov (.tmp 14)⟩,⟨some 138,some (136,false),.bin .eql (.tmp 137) (.cst (.p (.int .i64 4)))⟩,⟨some 139,none,.pick (.tmp 136) (.cst (.p (.bool true))) (.tmp 138)⟩,⟨some 140,none,.mov (.tmp 139)⟩,⟨some 141,some (140,false),.mov (.tmp 16)⟩,⟨some 142,some (140,false),.bin .eql (.tmp 141) (.cst (.p (.int .i64 4)))⟩,⟨some 143,none,.pick (.tmp 140) (.cst (.p (.bool true))) (.tmp 142)⟩,⟨some 144,none,.mov (.tmp 143)⟩,⟨some 145,some (144,false),.mov (.tmp 18)⟩,⟨some 146,some (144,false),.bin .eql (.tmp 145) (.cst (.p (.int .i64 4)))⟩,⟨some 147,none,.pick (.tmp 144) (.cst (.p (.bool true))) (.tmp 146)⟩,⟨some 6,none,.mov (.tmp 147)⟩]) (.ret)) (.skip))) (.seq (.region [⟨some 148,none,.load 4 true (.tmp 7)⟩,⟨some 149,none,.load 4 true (.tmp 9)⟩,⟨some 150,none,.call 12 [.tmp 148,.tmp 149]⟩,⟨some 151,none,.mov (.tmp 150)⟩,⟨some 152,some (151,true),.load 4 true (.tmp 11)⟩,⟨some 153,some (151,true),.load 4 true (.tmp 17)⟩,⟨some 154,some (151,true),.call 12 [.tmp 152,.tmp 153]⟩,⟨some 155,none,.pick (.tmp 151) (.tmp 154) (.cst (.p (.bool false)))⟩,⟨some 156,none,.mov (.tmp 155)⟩,⟨some 157,some (156,true),.load 4 true (.tmp 11)⟩,⟨some 158,some
 (156,true),.call 13 [.tmp 157]⟩,⟨some 159,none,.pick (.tmp 156) (.tmp 158) (.cst (.p (.bool false)))⟩,⟨some 160,none,.mov (.tmp 159)⟩,⟨some 161,some (160,true),.fadr 0 (.tmp 21)⟩,⟨some 162,some (160,true),.load 1 false (.tmp 161)⟩,⟨some 163,some (160,true),.len (.tmp 162)⟩,⟨some 164,some (160,true),.bin .eql (.tmp 163) (.cst (.p (.int .i64 0)))⟩,⟨some 165,none,.pick (.tmp 160) (.tmp 164) (.cst (.p (.bool false)))⟩,⟨some 166,none,.mov (.tmp 165)⟩,⟨some 167,some (166,true),.fadr 1 (.tmp 21)⟩,⟨some 168,some (166,true),.load 3 true (.tmp 167)⟩,⟨some 169,some (166,true),.call 14 [.tmp 168]⟩,⟨some 170,some (166,true),.bin .eql (.tmp 169) (.cst (.p (.int .i64 0)))⟩,⟨some 171,none,.pick (.tmp 166) (.tmp 170) (.cst (.p (.bool false)))⟩,⟨some 172,none,.mov (.tmp 171)⟩,⟨some 173,some (172,true),.call 8 []⟩,⟨some 174,none,.pick (.tmp 172) (.tmp 173) (.cst (.p (.bool false)))⟩,⟨some 6,none,.mov (.tmp 174)⟩]) (.ret))))))))))))⟩
theorem low3 : lowFunc Try.prog gl0 3 = some lf3 := lowF (by kernel_rfl)
def lf8 : LFunc := ⟨126,[.slot 0], .seq (.region [⟨some 0,none,.mov (.cst (.p (.bool false)))⟩]) (.seq (.region [⟨some 12,none,.call 11 [.cst (.p (.int .i64 2)),.cst (.p (.int .i64 1))]⟩,⟨some 13,none,.build (.agg [.p (.bool false),.tight [],.tight [],.p (.int .i64 0)]) [(0,3,(.tmp 12)),(3,1,(.cst (.p (.int .i64 1))))]⟩,⟨some 14,none,.call 11 [.cst (.p (.int .i64 (-1))),.cst (.p (.int .i64 1))]⟩,⟨some 15,none,.build (.agg [.p (.bool false),.tight [],.tight [],.p (.int .i64 0)]) [(0,3,(.tmp 14)),(3,1,(.cst (.p (.int .i64 4))))]⟩,⟨some 16,none,.buildSl 4 40 (.agg [.p (.bool false),.tight [],.tight [],.p (.int .i64 0)]) 2 [(0,(.tmp 13)),(1,(.tmp 15))]⟩,⟨some 17,none,.call 11 [.cst (.p (.int .i64 3)),.cst (.p (.int .i64 1))]⟩,⟨some 18,none,.build (.agg [.tight [],.p (.bool false),.tight [],.tight []]) [(0,1,(.tmp 16)),(1,3,(.tmp 17))]⟩,⟨some 1,none,.newv 4 27 (.cst (.agg [.tight [],.p (.bool false),.tight [],.tight []]))⟩,⟨none,none,.store 4 (.tmp 1) (.tmp 18)⟩]) (.seq (.region [⟨some 20,none,.load 4 true (.tmp 1)⟩,⟨some 21,none,.call 19 [.tmp 20,.cst (.p (.int .i64 1))]⟩,⟨some 19,none,.mov (.tmp 21)⟩,⟨some 22,none,.ext (.tmp 19) 0⟩,⟨some 23,none,.ext (.tmp 19) 1⟩,⟨some 2,none,.newv 4 27 (.cst (.agg [.tight [],.p (.bool false),.tight [],.tight []]))⟩,⟨none,none,.store 4 (.tmp 2) (.tmp 22)⟩,⟨some 3,none,.mov (.tmp 23)⟩]) (.seq (.regionN 1 [(⟨some 25,none,.load 4 true (.tmp 1)⟩,.s),(⟨some 26,none,.call 11 [.cst (.p (.int .i64 1)),.cst (.p (.int .i64 1))]⟩,.c 1),(⟨some 27,none,.build (.agg [.p (.bool false),.tight [],.tight [],.p (.int .i64 0)]) [(0,3,(.tmp 26)),(3,1,(.cst (.p (.int .i64 4))))]⟩,.f),(⟨some 28,none,.buildSl 4 40 (.agg [.p (.bool false),.tight [],.tight [],.p (.int .i64 0)]) 1 [(0,(.tmp 27))]⟩,.s),(⟨some 29,none,.call 11 [.cst (.p (.int .i64 0)),.cst (.p (.int .i64 1))]⟩,.t),(⟨some 30,none,.build (.agg [.tight [],.p (.bool false),.tight [],.tight []]) [(0,1,(.tmp 28)),(1,3,(.tmp 29))]⟩,.f),(⟨some 31,none,.call 9 [.tmp 25,.tmp 30]⟩,.c 1),(⟨some 24,none,.mov
 (.tmp 31)⟩,.f),(⟨some 32,none,.ext (.tmp 24) 0⟩,.f),(⟨some 33,none,.ext (.tmp 24) 1⟩,.f),(⟨some 4,none,.newv 4 27 (.cst (.agg [.tight [],.p (.bool false),.tight [],.tight []]))⟩,.n 0),(⟨none,none,.store 4 (.tmp 4) (.tmp 32)⟩,.f),(⟨some 5,none,.mov (.tmp 33)⟩,.f)]) (.seq (.region [⟨some 35,none,.load 4 true (.tmp 1)⟩,⟨some 36,none,.call 20 [.tmp 35,.cst (.p (.clo 21 []))]⟩,⟨some 34,none,.mov (.tmp 36)⟩,⟨some 37,none,.ext (.tmp 34) 0⟩,⟨some 38,none,.ext (.tmp 34) 1⟩,⟨some 6,none,.newv 3 25 (.cst (.agg [.p (.bool false),.tight [],.tight []]))⟩,⟨none,none,.store 3 (.tmp 6) (.tmp 37)⟩,⟨some 7,none,.mov (.tmp 38)⟩]) (.seq (.region [⟨some 40,none,.load 4 true (.tmp 1)⟩,⟨some 41,none,.call 19 [.tmp 40,.cst (.p (.int .i64 2))]⟩,⟨some 39,none,.mov (.tmp 41)⟩,⟨some 42,none,.ext (.tmp 39) 0⟩,⟨some 43,none,.ext (.tmp 39) 1⟩,⟨some 8,none,.newv 4 27 (.cst (.agg [.tight [],.p (.bool false),.tight [],.tight []]))⟩,⟨none,none,.store 4 (.tmp 8) (.tmp 42)⟩,⟨some 9,none,.mov (.tmp 43)⟩]) (.seq (.regionN 1 [(⟨some 45,none,.load 4 true (.tmp 1)⟩,.s),(⟨some 46,none,.call 11 [.cst (.p (.int .i64 0)),.cst (.p (.int .i64 1))]⟩,.c 1),(⟨some 47,none,.call 10 [.tmp 45,.tmp 46]⟩,.c 1),(⟨some 44,none,.mov (.tmp 47)⟩,.f),(⟨some 48,none,.ext (.tmp 44) 0⟩,.f),(⟨some 49,none,.ext (.tmp 44) 1⟩,.f),(⟨some 10,none,.newv 4 27 (.cst (.agg [.tight [],.p (.bool false),.tight [],.tight []]))⟩,.n 0),(⟨none,none,.store 4 (.tmp 10) (.tmp 48)⟩,.f),(⟨some 11,none,.mov (.tmp 49)⟩,.f)]) (.seq (.regionD [⟨some 50,none,.mov (.tmp 3)⟩,⟨some 51,none,.bin .eql (.tmp 50) (.cst (.p (.int .i64 0)))⟩,⟨some 52,none,.mov (.tmp 51)⟩,⟨some 53,some (52,true),.fadr 0 (.tmp 2)⟩,⟨some 54,some (52,true),.load 1 false (.tmp 53)⟩,⟨some 55,some (52,true),.len (.tmp 54)⟩,⟨some 56,some (52,true),.bin .eql (.tmp 55) (.cst (.p (.int .i64 1)))⟩,⟨some 57,none,.pick (.tmp 52) (.tmp 56) (.cst (.p (.bool false)))⟩,⟨some 58,none,.mov (.tmp 57)⟩,⟨some 59,some (58,true),.fadr 0 (.tmp 2)⟩,⟨some 60,some (58,true),.load 1 false (.tmp 59)⟩,⟨some 61,some
 (58,true),.iadr 4 (.tmp 60) (.cst (.p (.int .i64 0)))⟩,⟨some 62,some (58,true),.fadr 0 (.tmp 61)⟩,⟨some 63,some (58,true),.load 3 true (.tmp 62)⟩,⟨some 64,some (58,true),.call 11 [.cst (.p (.int .i64 1)),.cst (.p (.int .i64 2))]⟩,⟨some 65,some (58,true),.call 22 [.tmp 63,.tmp 64]⟩,⟨some 66,none,.pick (.tmp 58) (.tmp 65) (.cst (.p (.bool false)))⟩,⟨some 67,none,.mov (.tmp 66)⟩,⟨some 68,some (67,true),.fadr 1 (.tmp 2)⟩,⟨some 69,some (67,true),.load 3 true (.tmp 68)⟩,⟨some 70,some (67,true),.call 11 [.cst (.p (.int .i64 (-3))),.cst (.p (.int .i64 2))]⟩,⟨some 71,some (67,true),.call 22 [.tmp 69,.tmp 70]⟩,⟨some 72,none,.pick (.tmp 67) (.tmp 71) (.cst (.p (.bool false)))⟩,⟨some 73,none,.mov (.tmp 72)⟩,⟨some 74,some (73,true),.mov (.tmp 5)⟩,⟨some 75,some (73,true),.bin .eql (.tmp 74) (.cst (.p (.int .i64 0)))⟩,⟨some 76,none,.pick (.tmp 73) (.tmp 75) (.cst (.p (.bool false)))⟩,⟨some 77,none,.mov (.tmp 76)⟩,⟨some 78,some (77,true),.fadr 0 (.tmp 4)⟩,⟨some 79,some (77,true),.load 1 false (.tmp 78)⟩,⟨some 80,some (77,true),.len (.tmp 79)⟩,⟨some 81,some (77,true),.bin .eql (.tmp 80) (.cst (.p (.int .i64 1)))⟩,⟨some 82,none,.pick (.tmp 77) (.tmp 81) (.cst (.p (.bool false)))⟩,⟨some 83,none,.mov (.tmp 82)⟩,⟨some 84,some (83,true),.mov (.tmp 7)⟩,⟨some 85,some (83,true),.bin .eql (.tmp 84) (.cst (.p (.int .i64 0)))⟩,⟨some 86,none,.pick (.tmp 83) (.tmp 85) (.cst (.p (.bool false)))⟩,⟨some 87,none,.mov (.tmp 86)⟩,⟨some 88,some (87,true),.load 3 true (.tmp 6)⟩,⟨some 89,some (87,true),.call 11 [.cst (.p (.int .i64 1)),.cst (.p (.int .i64 1))]⟩,⟨some 90,some (87,true),.call 22 [.tmp 88,.tmp 89]⟩,⟨some 91,none,.pick (.tmp 87) (.tmp 90) (.cst (.p (.bool false)))⟩,⟨some 92,none,.mov (.tmp 91)⟩,⟨some 93,some (92,true),.mov (.tmp 9)⟩,⟨some 94,some (92,true),.bin .eql (.tmp 93) (.cst (.p (.int .i64 1)))⟩,⟨some 95,none,.pick (.tmp 92) (.tmp 94) (.cst (.p (.bool false)))⟩,⟨some 96,none,.mov (.tmp 95)⟩,⟨some 97,some (96,true),.mov (.tmp 11)⟩,⟨some 98,some (96,true),.bin .eql (.tmp 97) (.cst (.p
 (.int .i64 0)))⟩,⟨some 99,none,.pick (.tmp 96) (.tmp 98) (.cst (.p (.bool false)))⟩,⟨some 100,none,.mov (.tmp 99)⟩,⟨some 101,some (100,true),.fadr 0 (.tmp 10)⟩,⟨some 102,some (100,true),.load 1 false (.tmp 101)⟩,⟨some 103,some (100,true),.len (.tmp 102)⟩,⟨some 104,some (100,true),.bin .eql (.tmp 103) (.cst (.p (.int .i64 0)))⟩,⟨some 105,none,.pick (.tmp 100) (.tmp 104) (.cst (.p (.bool false)))⟩,⟨some 106,none,.mov (.tmp 105)⟩,⟨some 107,some (106,true),.load 4 true (.tmp 1)⟩,⟨some 108,some (106,true),.call 13 [.tmp 107]⟩,⟨some 109,none,.pick (.tmp 106) (.tmp 108) (.cst (.p (.bool false)))⟩,⟨some 110,none,.mov (.tmp 109)⟩,⟨some 111,some (110,true),.build (.agg [.tight [],.p (.bool false),.tight [],.tight []]) []⟩,⟨some 112,some (110,true),.call 13 [.tmp 111]⟩,⟨some 113,some (110,true),.un .not (.tmp 112)⟩,⟨some 114,none,.pick (.tmp 110) (.tmp 113) (.cst (.p (.bool false)))⟩,⟨some 115,none,.mov (.tmp 114)⟩,⟨some 116,some (115,true),.load 4 true (.tmp 1)⟩,⟨some 117,some (115,true),.load 4 true (.tmp 1)⟩,⟨some 118,some (115,true),.call 12 [.tmp 116,.tmp 117]⟩,⟨some 119,none,.pick (.tmp 115) (.tmp 118) (.cst (.p (.bool false)))⟩,⟨some 120,none,.mov (.tmp 119)⟩,⟨some 121,some (120,true),.load 4 true (.tmp 1)⟩,⟨some 122,some (120,true),.call 23 [.tmp 121,.cst (.p (.int .i64 4))]⟩,⟨some 123,some (120,true),.call 11 [.cst (.p (.int .i64 (-1))),.cst (.p (.int .i64 1))]⟩,⟨some 124,some (120,true),.call 22 [.tmp 122,.tmp 123]⟩,⟨some 125,none,.pick (.tmp 120) (.tmp 124) (.cst (.p (.bool false)))⟩,⟨some 0,none,.mov (.tmp 125)⟩]) (.ret))))))))⟩
theorem low8 : lowFuncB Try.prog gl0 true 8 = some lf8 := lowN (by kernel_rfl)
def lf21 : LFunc := ⟨5,[.cell 2 3 true], .seq (.region [⟨some 2,none,.newv 3 25 (.cst (.agg [.p (.bool false),.tight [],.tight []]))⟩]) (.seq (.region [⟨some 3,none,.mov (.tmp 0)⟩,⟨some 4,none,.call 11 [.tmp 3,.cst (.p (.int .i64 1))]⟩,⟨none,none,.store 3 (.tmp 2) (.tmp 4)⟩]) (.ret))⟩
theorem low21 : lowFunc Try.prog gl0 21 = some lf21 := lowF (by kernel_rfl)
def lf6_B0 : LCode := .block 0 (
  .loop (
   .seq (
    .seq (
     .region [
       ⟨(some 6), none, .mov (.tmp 4)⟩,
       ⟨(some 7), none, .fadr 0 (.tmp 1)⟩,
       ⟨(some 8), none, .load 1 false (.tmp 7)⟩,
       ⟨(some 9), none, .len (.tmp 8)⟩,
       ⟨(some 10), none, .bin .lss (.tmp 6) (.tmp 9)⟩]) (
     .cond (.tmp 10) (
      .skip) (
      .exit 0))) (
    .seq (
     .block 1 (
      .seq (
       .region [
         ⟨(some 13), none, .fadr 0 (.tmp 1)⟩,
         ⟨(some 14), none, .load 1 false (.tmp 13)⟩,
         ⟨(some 15), none, .mov (.tmp 4)⟩,
         ⟨(some 16), none, .iadr 4 (.tmp 14) (.tmp 15)⟩,
         ⟨(some 17), none, .load 4 true (.tmp 16)⟩,
         ⟨(some 5), none, .newv 4 40 (.cst (.agg [(.p (.bool false)), (.tight []), (.tight []), (.p (.int .i64 0))]))⟩,
         ⟨none, none, .store 4 (.tmp 5) (.tmp 17)⟩]) (
       .seq (
        .seq (
         .region [
           ⟨(some 18), none, .fadr 3 (.tmp 5)⟩,
           ⟨(some 19), none, .load 1 false (.tmp 18)⟩,
           ⟨(some 20), none, .mov (.tmp 3)⟩,
           ⟨(some 21), none, .bin .leq (.tmp 19) (.tmp 20)⟩,
           ⟨(some 22), none, .mov (.tmp 21)⟩,
           ⟨(some 23), (some (22, false)), .fadr 0 (.tmp 5)⟩,
           ⟨(some 24), (some (22, false)), .load 3 true (.tmp 23)⟩,
           ⟨(some 25), (some (22, false)), .call 7 [(.tmp 24)]⟩,
           ⟨(some 26), (some (22, false)), .un .not (.tmp 25)⟩,
           ⟨(some 27), none, .pick (.tmp 22) (.cst (.p (.bool true))) (.tmp 26)⟩,
           ⟨(some 28), none, .mov (.tmp 27)⟩,
           ⟨(some 29), (some (28, false)), .fadr 0 (.tmp 5)⟩,
           ⟨(some 30), (some (28, false)), .fadr 1 (.tmp 29)⟩,
           ⟨(some 31), (some (28, false)), .load 1 false (.tmp 30)⟩,
           ⟨(some 32), (some (28, false)), .len (.tmp 31)⟩,
           ⟨(some 33), (some (28, false)), .bin .eql (.tmp 32) (.cst (.p (.int .i64 0)))⟩,
           ⟨(some 34), none, .pick (.tmp 28) (.cst (.p (.bool true))) (.tmp 33)⟩]) (
         .cond (.tmp 34) (
          .seq (
           .region [
             ⟨(some 2), none, .mov (.cst (.p (.bool false)))⟩]) (
           .ret)) (
          .skip))) (
        .region [
          ⟨(some 35), none, .fadr 3 (.tmp 5)⟩,
          ⟨(some 36), none, .load 1 false (.tmp 35)⟩,
          ⟨(some 3), none, .mov (.tmp 36)⟩])))) (
     .region [
       ⟨(some 11), none, .mov (.tmp 4)⟩,
       ⟨(some 12), none, .bin .add (.tmp 11) (.cst (.p (.int .i64 1)))⟩,
       ⟨(some 4), none, .mov (.tmp 12)⟩]))))
def lf6 : LFunc := ⟨40,[.slot 2], .seq (.region [⟨some 1,none,.newv 4 27 (.tmp 0)⟩,⟨some 2,none,.mov (.cst (.p (.bool false)))⟩]) (.seq (.region [⟨some 3,none,.mov (.cst (.p (.int .i64 (-1))))⟩]) (.seq (.seq (.region [⟨some 4,none,.mov (.cst (.p (.int .i64 0)))⟩]) (lf6_B0)) (.seq (.region [⟨some 37,none,.fadr 1 (.tmp 1)⟩,⟨some 38,none,.load 3 true (.tmp 37)⟩,⟨some 39,none,.call 7 [.tmp 38]⟩,⟨some 2,none,.mov (.tmp 39)⟩]) (.ret))))⟩
theorem low6 : lowFunc Try.prog gl0 6 = some lf6 := lowF (by kernel_rfl)
end Go.Proofs.Ytepfpgnjpkcgmaa
