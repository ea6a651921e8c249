/-
  The lowered code of rat and of the functions of texts that it calls, each equal to what the program's form lowers to. No conditions.
-/
import Derived.Test.YtgdpephlpdonnaaGreatDoorAbsTwo
import Derived.Test.YtgdpephlpdonnaaGreatDoorProg
import Derived.Test.YtgdpephlpdonnaaGreatDoorNatA
import Derived.KernelRfl
set_option linter.unusedSimpArgs false
set_option linter.unusedVariables false
set_option linter.constructorNameAsVariable false

/-
  The lowered code of the functions, as the program's form has it.
-/
namespace Go.Proofs.YtgdpephlpdonnaaGreatDoor
open Go Go.Abs
def lf63 : LFunc := ⟨2,[.slot 0], .seq (.region [⟨some 0,none,.mov (.cst (.tight []))⟩]) (.seq (.region [⟨some 1,none,.call 40 [.cst (.p (.int .i64 1))]⟩,⟨some 0,none,.mov (.tmp 1)⟩]) (.ret))⟩
theorem low63 : lowFunc Tryz.prog gl0 63 = some lf63 := by kernel_rfl
def lf35 : LFunc := ⟨44,[.slot 2], .seq (.region [⟨some 1,none,.newv 3 24 (.tmp 0)⟩,⟨some 2,none,.mov (.cst (.p (.bool false)))⟩]) (.seq (.seq (.region [⟨some 3,none,.fadr 1 (.tmp 1)⟩,⟨some 4,none,.load 1 false (.tmp 3)⟩,⟨some 5,none,.call 76 [.tmp 4]⟩,⟨some 6,none,.un .not (.tmp 5)⟩,⟨some 7,none,.mov (.tmp 6)⟩,⟨some 8,some (7,false),.fadr 2 (.tmp 1)⟩,⟨some 9,some (7,false),.load 1 false (.tmp 8)⟩,⟨some 10,some (7,false),.call 76 [.tmp 9]⟩,⟨some 11,some (7,false),.un .not (.tmp 10)⟩,⟨some 12,none,.pick (.tmp 7) (.cst (.p (.bool true))) (.tmp 11)⟩,⟨some 13,none,.mov (.tmp 12)⟩,⟨some 14,some (13,false),.fadr 2 (.tmp 1)⟩,⟨some 15,some (13,false),.load 1 false (.tmp 14)⟩,⟨some 16,some (13,false),.len (.tmp 15)⟩,⟨some 17,some (13,false),.bin .eql (.tmp 16) (.cst (.p (.int .i64 0)))⟩,⟨some 18,none,.pick (.tmp 13) (.cst (.p (.bool true))) (.tmp 17)⟩,⟨some 19,none,.mov (.tmp 18)⟩,⟨some 20,some (19,false),.fadr 0 (.tmp 1)⟩,⟨some 21,some (19,false),.load 1 false (.tmp 20)⟩,⟨some 22,some (19,false),.mov (.tmp 21)⟩,⟨some 23,some (22,true),.fadr 1 (.tmp 1)⟩,⟨some 24,some (22,true),.load 1 false (.tmp 23)⟩,⟨some 25,some (22,true),.len (.tmp 24)⟩,⟨some 26,some (22,true),.bin .eql (.tmp 25) (.cst (.p (.int .i64 0)))⟩,⟨some 27,some (19,false),.pick (.tmp 22) (.tmp 26) (.cst (.p (.bool false)))⟩,⟨some 28,none,.pick (.tmp 19) (.cst (.p (.bool true))) (.tmp 27)⟩]) (.cond (.tmp 28) (.seq (.region [⟨some 2,none,.mov (.cst (.p (.bool false)))⟩]) (.ret)) (.skip))) (.seq (.regionD [⟨some 29,none,.fadr 2 (.tmp 1)⟩,⟨some 30,none,.load 1 false (.tmp 29)⟩,⟨some 31,none,.call 63 []⟩,⟨some 32,none,.call 46 [.tmp 30,.tmp 31]⟩,⟨some 33,none,.bin .eql (.tmp 32) (.cst (.p (.int .i64 0)))⟩,⟨some 34,none,.mov (.tmp 33)⟩,⟨some 35,some (34,false),.fadr 1 (.tmp 1)⟩,⟨some 36,some (34,false),.load 1 false (.tmp 35)⟩,⟨some 37,some (34,false),.fadr 2 (.tmp 1)⟩,⟨some 38,some (34,false),.load 1 false (.tmp 37)⟩,⟨some 39,some (34,false),.call 62 [.tmp 36,.tmp 38]⟩,⟨some 40,some (34,false),.call 63 []⟩,⟨some
 41,some (34,false),.call 46 [.tmp 39,.tmp 40]⟩,⟨some 42,some (34,false),.bin .eql (.tmp 41) (.cst (.p (.int .i64 0)))⟩,⟨some 43,none,.pick (.tmp 34) (.cst (.p (.bool true))) (.tmp 42)⟩,⟨some 2,none,.mov (.tmp 43)⟩]) (.ret)))⟩
theorem low35 : lowFunc Tryz.prog gl0 35 = some lf35 := by kernel_rfl
def lf26 : LFunc := ⟨48,[.cell 6 3 true,.slot 7], .seq (.region [⟨some 6,none,.newv 3 24 (.cst (.agg [.p (.bool false),.tight [],.tight []]))⟩,⟨some 7,none,.mov (.cst (.p (.int .i64 0)))⟩]) (.seq (.seq (.region [⟨some 9,none,.mov (.tmp 1)⟩,⟨some 10,none,.mov (.tmp 2)⟩,⟨some 11,none,.call 62 [.tmp 9,.tmp 10]⟩,⟨some 8,none,.mov (.tmp 11)⟩]) (.seq (.region [⟨some 12,none,.mov (.tmp 8)⟩,⟨some 13,none,.call 63 []⟩,⟨some 14,none,.call 46 [.tmp 12,.tmp 13]⟩,⟨some 15,none,.bin .neq (.tmp 14) (.cst (.p (.int .i64 0)))⟩]) (.cond (.tmp 15) (.seq (.region [⟨some 17,none,.mov (.tmp 1)⟩,⟨some 18,none,.mov (.tmp 8)⟩,⟨some 19,none,.call 37 [.tmp 17,.tmp 18]⟩,⟨some 16,none,.mov (.tmp 19)⟩,⟨some 20,none,.ext (.tmp 16) 0⟩,⟨some 21,none,.ext (.tmp 16) 1⟩,⟨some 1,none,.mov (.tmp 20)⟩]) (.region [⟨some 23,none,.mov (.tmp 2)⟩,⟨some 24,none,.mov (.tmp 8)⟩,⟨some 25,none,.call 37 [.tmp 23,.tmp 24]⟩,⟨some 22,none,.mov (.tmp 25)⟩,⟨some 26,none,.ext (.tmp 22) 0⟩,⟨some 27,none,.ext (.tmp 22) 1⟩,⟨some 2,none,.mov (.tmp 26)⟩])) (.skip)))) (.seq (.seq (.region [⟨some 28,none,.mov (.tmp 1)⟩,⟨some 29,none,.len (.tmp 28)⟩,⟨some 30,none,.bin .gtr (.tmp 29) (.cst (.p (.int .i64 64)))⟩,⟨some 31,none,.mov (.tmp 30)⟩,⟨some 32,some (31,false),.mov (.tmp 2)⟩,⟨some 33,some (31,false),.len (.tmp 32)⟩,⟨some 34,some (31,false),.bin .gtr (.tmp 33) (.cst (.p (.int .i64 64)))⟩,⟨some 35,none,.pick (.tmp 31) (.cst (.p (.bool true))) (.tmp 34)⟩]) (.cond (.tmp 35) (.seq (.region [⟨some 36,none,.build (.agg [.p (.bool false),.tight [],.tight []]) []⟩,⟨none,none,.store 3 (.tmp 6) (.tmp 36)⟩,⟨some 7,none,.mov (.cst (.p (.int .i64 4)))⟩]) (.ret)) (.skip))) (.seq (.region [⟨some 37,none,.mov (.tmp 0)⟩,⟨some 38,none,.mov (.tmp 37)⟩,⟨some 39,some (38,true),.mov (.tmp 1)⟩,⟨some 40,some (38,true),.len (.tmp 39)⟩,⟨some 41,some (38,true),.bin .gtr (.tmp 40) (.cst (.p (.int .i64 0)))⟩,⟨some 42,none,.pick (.tmp 38) (.tmp 41) (.cst (.p (.bool false)))⟩,⟨some 43,none,.mov (.tmp 1)⟩,⟨some 44,none,.call 64 [.tmp 43]⟩,⟨some 45,none,.mov
 (.tmp 2)⟩,⟨some 46,none,.call 64 [.tmp 45]⟩,⟨some 47,none,.build (.agg [.p (.bool false),.tight [],.tight []]) [(0,1,(.tmp 42)),(1,1,(.tmp 44)),(2,1,(.tmp 46))]⟩,⟨none,none,.store 3 (.tmp 6) (.tmp 47)⟩,⟨some 7,none,.mov (.cst (.p (.int .i64 0)))⟩]) (.ret))))⟩
theorem low26 : lowFunc Tryz.prog gl0 26 = some lf26 := by kernel_rfl
def lf45 : LFunc := ⟨23,[.cell 2 3 true], .seq (.region [⟨some 1,none,.newv 3 24 (.tmp 0)⟩,⟨some 2,none,.newv 3 24 (.cst (.agg [.p (.bool false),.tight [],.tight []]))⟩]) (.seq (.seq (.region [⟨some 3,none,.load 3 true (.tmp 1)⟩,⟨some 4,none,.call 35 [.tmp 3]⟩,⟨some 5,none,.un .not (.tmp 4)⟩]) (.cond (.tmp 5) (.seq (.region [⟨some 6,none,.build (.agg [.p (.bool false),.tight [],.tight []]) []⟩,⟨none,none,.store 3 (.tmp 2) (.tmp 6)⟩]) (.ret)) (.skip))) (.seq (.regionW [(⟨some 7,none,.fadr 0 (.tmp 1)⟩,.f),(⟨some 8,none,.load 1 false (.tmp 7)⟩,.f),(⟨some 9,none,.un .not (.tmp 8)⟩,.f),(⟨some 10,none,.mov (.tmp 9)⟩,.f),(⟨some 11,some (10,true),.fadr 1 (.tmp 1)⟩,.s),(⟨some 12,some (10,true),.load 1 false (.tmp 11)⟩,.s),(⟨some 13,some (10,true),.len (.tmp 12)⟩,.s),(⟨some 14,some (10,true),.bin .gtr (.tmp 13) (.cst (.p (.int .i64 0)))⟩,.f),(⟨some 15,none,.pick (.tmp 10) (.tmp 14) (.cst (.p (.bool false)))⟩,.f),(⟨some 16,none,.fadr 1 (.tmp 1)⟩,.f),(⟨some 17,none,.load 1 false (.tmp 16)⟩,.f),(⟨some 18,none,.call 64 [.tmp 17]⟩,.s),(⟨some 19,none,.fadr 2 (.tmp 1)⟩,.s),(⟨some 20,none,.load 1 false (.tmp 19)⟩,.s),(⟨some 21,none,.call 64 [.tmp 20]⟩,.s),(⟨some 22,none,.build (.agg [.p (.bool false),.tight [],.tight []]) [(0,1,(.tmp 15)),(1,1,(.tmp 18)),(2,1,(.tmp 21))]⟩,.f),(⟨none,none,.store 3 (.tmp 2) (.tmp 22)⟩,.f)]) (.ret)))⟩
theorem low45 : lowFunc Tryz.prog gl0 45 = some lf45 := by kernel_rfl
def lf22 : LFunc := ⟨13,[.slot 4,.slot 5,.slot 6], .seq (.region [⟨some 4,none,.mov (.cst (.p (.str [])))⟩,⟨some 5,none,.mov (.cst (.p (.str [])))⟩,⟨some 6,none,.mov (.cst (.p (.bool false)))⟩]) (.seq (.region [⟨some 7,none,.mov (.tmp 0)⟩,⟨some 8,none,.mov (.tmp 1)⟩,⟨some 9,none,.call 56 [.tmp 7,.tmp 8]⟩,⟨some 10,none,.ext (.tmp 9) 0⟩,⟨some 11,none,.ext (.tmp 9) 1⟩,⟨some 12,none,.ext (.tmp 9) 2⟩,⟨some 4,none,.mov (.tmp 10)⟩,⟨some 5,none,.mov (.tmp 11)⟩,⟨some 6,none,.mov (.tmp 12)⟩]) (.ret))⟩
theorem low22 : lowFunc Tryz.prog gl0 22 = some lf22 := by kernel_rfl
def lf56 : LFunc := ⟨23,[.slot 4,.slot 5,.slot 6], .seq (.region [⟨some 4,none,.mov (.cst (.p (.str [])))⟩,⟨some 5,none,.mov (.cst (.p (.str [])))⟩,⟨some 6,none,.mov (.cst (.p (.bool false)))⟩]) (.seq (.seq (.region [⟨some 8,none,.mov (.tmp 0)⟩,⟨some 9,none,.mov (.tmp 1)⟩,⟨some 10,none,.call 95 [.tmp 8,.tmp 9]⟩,⟨some 7,none,.mov (.tmp 10)⟩]) (.seq (.region [⟨some 11,none,.mov (.tmp 7)⟩,⟨some 12,none,.bin .geq (.tmp 11) (.cst (.p (.int .i64 0)))⟩]) (.cond (.tmp 12) (.seq (.regionD [⟨some 13,none,.mov (.tmp 0)⟩,⟨some 14,none,.mov (.tmp 7)⟩,⟨some 15,none,.slStr (.tmp 13) none (some (.tmp 14))⟩,⟨some 16,none,.mov (.tmp 0)⟩,⟨some 17,none,.mov (.tmp 7)⟩,⟨some 18,none,.mov (.tmp 1)⟩,⟨some 19,none,.lenS (.tmp 18)⟩,⟨some 20,none,.bin .add (.tmp 17) (.tmp 19)⟩,⟨some 21,none,.slStr (.tmp 16) (some (.tmp 20)) none⟩,⟨some 4,none,.mov (.tmp 15)⟩,⟨some 5,none,.mov (.tmp 21)⟩,⟨some 6,none,.mov (.cst (.p (.bool true)))⟩]) (.ret)) (.skip)))) (.seq (.region [⟨some 22,none,.mov (.tmp 0)⟩,⟨some 4,none,.mov (.tmp 22)⟩,⟨some 5,none,.mov (.cst (.p (.str [])))⟩,⟨some 6,none,.mov (.cst (.p (.bool false)))⟩]) (.ret)))⟩
theorem low56 : lowFunc Tryz.prog gl0 56 = some lf56 := by kernel_rfl
def lf95_B0 : LCode := .block 1 (
  .loop (
   .seq (
    .seq (
     .region [
       ⟨(some 57), none, .mov (.tmp 8)⟩,
       ⟨(some 58), none, .mov (.tmp 9)⟩,
       ⟨(some 59), none, .bin .lss (.tmp 57) (.tmp 58)⟩]) (
     .cond (.tmp 59) (
      .skip) (
      .exit 1))) (
    .block 2 (
     .seq (
      .seq (
       .region [
         ⟨(some 60), none, .mov (.tmp 0)⟩,
         ⟨(some 61), none, .mov (.tmp 8)⟩,
         ⟨(some 62), none, .istr (.tmp 60) (.tmp 61)⟩,
         ⟨(some 63), none, .mov (.tmp 6)⟩,
         ⟨(some 64), none, .bin .neq (.tmp 62) (.tmp 63)⟩]) (
       .cond (.tmp 64) (
        .seq (
         .region [
           ⟨(some 65), none, .mov (.tmp 0)⟩,
           ⟨(some 66), none, .mov (.tmp 8)⟩,
           ⟨(some 67), none, .bin .add (.tmp 66) (.cst (.p (.int .i64 1)))⟩,
           ⟨(some 68), none, .mov (.tmp 9)⟩,
           ⟨(some 69), none, .slStr (.tmp 65) (some (.tmp 67)) (some (.tmp 68))⟩,
           ⟨(some 70), none, .mov (.tmp 6)⟩,
           ⟨(some 71), none, .call 115 [(.tmp 69), (.tmp 70)]⟩,
           ⟨(some 11), none, .mov (.tmp 71)⟩]) (
         .seq (
          .seq (
           .region [
             ⟨(some 72), none, .mov (.tmp 11)⟩,
             ⟨(some 73), none, .bin .lss (.tmp 72) (.cst (.p (.int .i64 0)))⟩]) (
           .cond (.tmp 73) (
            .seq (
             .region [
               ⟨(some 4), none, .mov (.cst (.p (.int .i64 (-1))))⟩]) (
             .ret)) (
            .skip))) (
          .region [
            ⟨(some 74), none, .mov (.tmp 8)⟩,
            ⟨(some 75), none, .mov (.tmp 11)⟩,
            ⟨(some 76), none, .bin .add (.tmp 75) (.cst (.p (.int .i64 1)))⟩,
            ⟨(some 77), none, .bin .add (.tmp 74) (.tmp 76)⟩,
            ⟨(some 8), none, .mov (.tmp 77)⟩]))) (
        .skip))) (
      .seq (
       .seq (
        .region [
          ⟨(some 78), none, .mov (.tmp 0)⟩,
          ⟨(some 79), none, .mov (.tmp 8)⟩,
          ⟨(some 80), none, .bin .add (.tmp 79) (.cst (.p (.int .i64 1)))⟩,
          ⟨(some 81), none, .istr (.tmp 78) (.tmp 80)⟩,
          ⟨(some 82), none, .mov (.tmp 7)⟩,
          ⟨(some 83), none, .bin .eql (.tmp 81) (.tmp 82)⟩,
          ⟨(some 84), none, .mov (.tmp 83)⟩,
          ⟨(some 85), (some (84, true)), .mov (.tmp 0)⟩,
          ⟨(some 86), (some (84, true)), .mov (.tmp 8)⟩,
          ⟨(some 87), (some (84, true)), .mov (.tmp 8)⟩,
          ⟨(some 88), (some (84, true)), .mov (.tmp 5)⟩,
          ⟨(some 89), (some (84, true)), .bin .add (.tmp 87) (.tmp 88)⟩,
          ⟨(some 90), (some (84, true)), .slStr (.tmp 85) (some (.tmp 86)) (some (.tmp 89))⟩,
          ⟨(some 91), (some (84, true)), .mov (.tmp 1)⟩,
          ⟨(some 92), (some (84, true)), .bin .eql (.tmp 90) (.tmp 91)⟩,
          ⟨(some 93), none, .pick (.tmp 84) (.tmp 92) (.cst (.p (.bool false)))⟩]) (
        .cond (.tmp 93) (
         .seq (
          .region [
            ⟨(some 94), none, .mov (.tmp 8)⟩,
            ⟨(some 4), none, .mov (.tmp 94)⟩]) (
          .ret)) (
         .skip))) (
       .seq (
        .region [
          ⟨(some 95), none, .mov (.tmp 8)⟩,
          ⟨(some 96), none, .bin .add (.tmp 95) (.cst (.p (.int .i64 1)))⟩,
          ⟨(some 8), none, .mov (.tmp 96)⟩]) (
        .seq (
         .region [
           ⟨(some 97), none, .mov (.tmp 10)⟩,
           ⟨(some 98), none, .bin .add (.tmp 97) (.cst (.p (.int .i64 1)))⟩,
           ⟨(some 10), none, .mov (.tmp 98)⟩]) (
         .seq (
          .region [
            ⟨(some 99), none, .mov (.tmp 5)⟩,
            ⟨(some 100), none, .load 1 false (.cst .junk)⟩,
            ⟨(some 101), none, .bin .leq (.tmp 99) (.tmp 100)⟩,
            ⟨(some 102), none, .mov (.tmp 101)⟩,
            ⟨(some 103), (some (102, true)), .mov (.tmp 10)⟩,
            ⟨(some 104), (some (102, true)), .mov (.tmp 8)⟩,
            ⟨(some 105), (some (102, true)), .call 117 [(.tmp 104)]⟩,
            ⟨(some 106), (some (102, true)), .bin .gtr (.tmp 103) (.tmp 105)⟩,
            ⟨(some 107), none, .pick (.tmp 102) (.tmp 106) (.cst (.p (.bool false)))⟩]) (
          .cond (.tmp 107) (
           .seq (
            .region [
              ⟨(some 108), none, .mov (.tmp 0)⟩,
              ⟨(some 109), none, .mov (.tmp 8)⟩,
              ⟨(some 110), none, .slStr (.tmp 108) (some (.tmp 109)) none⟩,
              ⟨(some 111), none, .mov (.tmp 1)⟩,
              ⟨(some 112), none, .calle 116 [(.tmp 110), (.tmp 111)]⟩,
              ⟨(some 12), none, .mov (.tmp 112)⟩]) (
            .seq (
             .seq (
              .region [
                ⟨(some 113), none, .mov (.tmp 12)⟩,
                ⟨(some 114), none, .bin .geq (.tmp 113) (.cst (.p (.int .i64 0)))⟩]) (
              .cond (.tmp 114) (
               .seq (
                .region [
                  ⟨(some 115), none, .mov (.tmp 12)⟩,
                  ⟨(some 116), none, .mov (.tmp 8)⟩,
                  ⟨(some 117), none, .bin .add (.tmp 115) (.tmp 116)⟩,
                  ⟨(some 4), none, .mov (.tmp 117)⟩]) (
                .ret)) (
               .skip))) (
             .seq (
              .region [
                ⟨(some 4), none, .mov (.cst (.p (.int .i64 (-1))))⟩]) (
              .ret)))) (
           .seq (
            .region [
              ⟨(some 118), none, .mov (.tmp 5)⟩,
              ⟨(some 119), none, .load 1 false (.cst .junk)⟩,
              ⟨(some 120), none, .bin .gtr (.tmp 118) (.tmp 119)⟩,
              ⟨(some 121), none, .mov (.tmp 120)⟩,
              ⟨(some 122), (some (121, true)), .mov (.tmp 10)⟩,
              ⟨(some 123), (some (121, true)), .mov (.tmp 8)⟩,
              ⟨(some 124), (some (121, true)), .bin .shr (.tmp 123) (.cst (.p (.int .u64 4)))⟩,
              ⟨(some 125), (some (121, true)), .bin .add (.cst (.p (.int .i64 4))) (.tmp 124)⟩,
              ⟨(some 126), (some (121, true)), .bin .geq (.tmp 122) (.tmp 125)⟩,
              ⟨(some 127), none, .pick (.tmp 121) (.tmp 126) (.cst (.p (.bool false)))⟩,
              ⟨(some 128), none, .mov (.tmp 127)⟩,
              ⟨(some 129), (some (128, true)), .mov (.tmp 8)⟩,
              ⟨(some 130), (some (128, true)), .mov (.tmp 9)⟩,
              ⟨(some 131), (some (128, true)), .bin .lss (.tmp 129) (.tmp 130)⟩,
              ⟨(some 132), none, .pick (.tmp 128) (.tmp 131) (.cst (.p (.bool false)))⟩]) (
            .cond (.tmp 132) (
             .seq (
              .region [
                ⟨(some 133), none, .mov (.tmp 0)⟩,
                ⟨(some 134), none, .mov (.tmp 8)⟩,
                ⟨(some 135), none, .slStr (.tmp 133) (some (.tmp 134)) none⟩,
                ⟨(some 136), none, .mov (.tmp 1)⟩,
                ⟨(some 137), none, .call 118 [(.tmp 135), (.tmp 136)]⟩,
                ⟨(some 13), none, .mov (.tmp 137)⟩]) (
              .seq (
               .seq (
                .region [
                  ⟨(some 138), none, .mov (.tmp 13)⟩,
                  ⟨(some 139), none, .bin .lss (.tmp 138) (.cst (.p (.int .i64 0)))⟩]) (
                .cond (.tmp 139) (
                 .seq (
                  .region [
                    ⟨(some 4), none, .mov (.cst (.p (.int .i64 (-1))))⟩]) (
                  .ret)) (
                 .skip))) (
               .seq (
                .region [
                  ⟨(some 140), none, .mov (.tmp 8)⟩,
                  ⟨(some 141), none, .mov (.tmp 13)⟩,
                  ⟨(some 142), none, .bin .add (.tmp 140) (.tmp 141)⟩,
                  ⟨(some 4), none, .mov (.tmp 142)⟩]) (
                .ret)))) (
             .skip))))))))))))
def lf95 : LFunc := ⟨143,[.slot 4], .seq (.region [⟨some 4,none,.mov (.cst (.p (.int .i64 0)))⟩]) (.seq (.region [⟨some 14,none,.mov (.tmp 1)⟩,⟨some 15,none,.lenS (.tmp 14)⟩,⟨some 5,none,.mov (.tmp 15)⟩]) (.seq (.block 0 (.seq (.region [⟨some 17,none,.mov (.tmp 5)⟩,⟨some 18,none,.bin .eql (.tmp 17) (.cst (.p (.int .i64 0)))⟩,⟨some 19,none,.mov (.tmp 18)⟩,⟨some 20,some (19,false),.mov (.tmp 1)⟩,⟨some 21,some (19,false),.mov (.tmp 0)⟩,⟨some 22,some (19,false),.bin .eql (.tmp 20) (.tmp 21)⟩,⟨some 23,none,.pick (.tmp 19) (.cst (.p (.bool true))) (.tmp 22)⟩,⟨some 16,none,.mov (.tmp 23)⟩]) (.cond (.tmp 16) (.seq (.region [⟨some 4,none,.mov (.cst (.p (.int .i64 0)))⟩]) (.ret)) (.seq (.region [⟨some 25,none,.mov (.tmp 5)⟩,⟨some 26,none,.bin .eql (.tmp 25) (.cst (.p (.int .i64 1)))⟩,⟨some 24,none,.mov (.tmp 26)⟩]) (.cond (.tmp 24) (.seq (.region [⟨some 27,none,.mov (.tmp 0)⟩,⟨some 28,none,.mov (.tmp 1)⟩,⟨some 29,none,.istr (.tmp 28) (.cst (.p (.int .i64 0)))⟩,⟨some 30,none,.call 115 [.tmp 27,.tmp 29]⟩,⟨some 4,none,.mov (.tmp 30)⟩]) (.ret)) (.seq (.region [⟨some 32,none,.mov (.tmp 5)⟩,⟨some 33,none,.mov (.tmp 0)⟩,⟨some 34,none,.lenS (.tmp 33)⟩,⟨some 35,none,.bin .geq (.tmp 32) (.tmp 34)⟩,⟨some 31,none,.mov (.tmp 35)⟩]) (.cond (.tmp 31) (.seq (.region [⟨some 4,none,.mov (.cst (.p (.int .i64 (-1))))⟩]) (.ret)) (.seq (.region [⟨some 37,none,.mov (.tmp 5)⟩,⟨some 38,none,.load 1 false (.cst .junk)⟩,⟨some 39,none,.bin .leq (.tmp 37) (.tmp 38)⟩,⟨some 40,none,.mov (.tmp 39)⟩,⟨some 41,some (40,true),.mov (.tmp 0)⟩,⟨some 42,some (40,true),.lenS (.tmp 41)⟩,⟨some 43,some (40,true),.bin .leq (.tmp 42) (.cst (.p (.int .i64 64)))⟩,⟨some 44,none,.pick (.tmp 40) (.tmp 43) (.cst (.p (.bool false)))⟩,⟨some 36,none,.mov (.tmp 44)⟩]) (.cond (.tmp 36) (.seq (.region [⟨some 45,none,.mov (.tmp 0)⟩,⟨some 46,none,.mov (.tmp 1)⟩,⟨some 47,none,.calle 116 [.tmp 45,.tmp 46]⟩,⟨some 4,none,.mov (.tmp 47)⟩]) (.ret)) (.skip)))))))))) (.seq (.region [⟨some 48,none,.mov (.tmp 1)⟩,⟨some 49,none,.istr (.tmp 48)
 (.cst (.p (.int .i64 0)))⟩,⟨some 6,none,.mov (.tmp 49)⟩]) (.seq (.region [⟨some 50,none,.mov (.tmp 1)⟩,⟨some 51,none,.istr (.tmp 50) (.cst (.p (.int .i64 1)))⟩,⟨some 7,none,.mov (.tmp 51)⟩]) (.seq (.region [⟨some 8,none,.mov (.cst (.p (.int .i64 0)))⟩]) (.seq (.region [⟨some 52,none,.mov (.tmp 0)⟩,⟨some 53,none,.lenS (.tmp 52)⟩,⟨some 54,none,.mov (.tmp 5)⟩,⟨some 55,none,.bin .sub (.tmp 53) (.tmp 54)⟩,⟨some 56,none,.bin .add (.tmp 55) (.cst (.p (.int .i64 1)))⟩,⟨some 9,none,.mov (.tmp 56)⟩]) (.seq (.region [⟨some 10,none,.mov (.cst (.p (.int .i64 0)))⟩]) (.seq (lf95_B0) (.seq (.region [⟨some 4,none,.mov (.cst (.p (.int .i64 (-1))))⟩]) (.ret))))))))))⟩
theorem low95 : lowFunc Tryz.prog gl0 95 = some lf95 := by kernel_rfl
def lf115 : LFunc := ⟨8,[.slot 4], .seq (.region [⟨some 4,none,.mov (.cst (.p (.int .i64 0)))⟩]) (.seq (.region [⟨some 5,none,.mov (.tmp 0)⟩,⟨some 6,none,.mov (.tmp 1)⟩,⟨some 7,none,.calle 136 [.tmp 5,.tmp 6]⟩,⟨some 4,none,.mov (.tmp 7)⟩]) (.ret))⟩
theorem low115 : lowFunc Tryz.prog gl0 115 = some lf115 := by kernel_rfl
def lf58_B0 : LCode := .block 0 (
  .loop (
   .seq (
    .seq (
     .region [
       ⟨(some 5), none, .mov (.tmp 0)⟩,
       ⟨(some 6), none, .lenS (.tmp 5)⟩,
       ⟨(some 7), none, .bin .gtr (.tmp 6) (.cst (.p (.int .i64 0)))⟩,
       ⟨(some 8), none, .mov (.tmp 7)⟩,
       ⟨(some 9), (some (8, true)), .mov (.tmp 0)⟩,
       ⟨(some 10), (some (8, true)), .mov (.tmp 0)⟩,
       ⟨(some 11), (some (8, true)), .lenS (.tmp 10)⟩,
       ⟨(some 12), (some (8, true)), .bin .sub (.tmp 11) (.cst (.p (.int .i64 1)))⟩,
       ⟨(some 13), (some (8, true)), .istr (.tmp 9) (.tmp 12)⟩,
       ⟨(some 14), (some (8, true)), .mov (.tmp 1)⟩,
       ⟨(some 15), (some (8, true)), .bin .eql (.tmp 13) (.tmp 14)⟩,
       ⟨(some 16), none, .pick (.tmp 8) (.tmp 15) (.cst (.p (.bool false)))⟩]) (
     .cond (.tmp 16) (
      .skip) (
      .exit 0))) (
    .block 1 (
     .region [
       ⟨(some 17), none, .mov (.tmp 0)⟩,
       ⟨(some 18), none, .mov (.tmp 0)⟩,
       ⟨(some 19), none, .lenS (.tmp 18)⟩,
       ⟨(some 20), none, .bin .sub (.tmp 19) (.cst (.p (.int .i64 1)))⟩,
       ⟨(some 21), none, .slStr (.tmp 17) none (some (.tmp 20))⟩,
       ⟨(some 0), none, .mov (.tmp 21)⟩]))))
def lf58 : LFunc := ⟨23,[.slot 4], .seq (.region [⟨some 4,none,.mov (.cst (.p (.str [])))⟩]) (.seq (lf58_B0) (.seq (.region [⟨some 22,none,.mov (.tmp 0)⟩,⟨some 4,none,.mov (.tmp 22)⟩]) (.ret)))⟩
theorem low58 : lowFunc Tryz.prog gl0 58 = some lf58 := by kernel_rfl
def lf25 : LFunc := ⟨37,[.slot 4], .seq (.region [⟨some 4,none,.mov (.cst (.p (.str [])))⟩]) (.seq (.seq (.region [⟨some 7,none,.mov (.tmp 0)⟩,⟨some 8,none,.bin .eql (.tmp 7) (.cst (.p (.str [])))⟩,⟨some 9,none,.mov (.tmp 8)⟩,⟨some 10,some (9,false),.mov (.tmp 1)⟩,⟨some 11,some (9,false),.bin .eql (.tmp 10) (.cst (.p (.str [])))⟩,⟨some 12,none,.pick (.tmp 9) (.cst (.p (.bool true))) (.tmp 11)⟩]) (.cond (.tmp 12) (.seq (.region [⟨some 13,none,.mov (.tmp 0)⟩,⟨some 4,none,.mov (.tmp 13)⟩]) (.ret)) (.skip))) (.seq (.seq (.region [⟨some 14,none,.mov (.tmp 1)⟩,⟨some 15,none,.lenS (.tmp 14)⟩,⟨some 16,none,.bin .eql (.tmp 15) (.cst (.p (.int .i64 1)))⟩,⟨some 17,none,.mov (.tmp 16)⟩,⟨some 18,some (17,true),.mov (.tmp 1)⟩,⟨some 19,some (17,true),.istr (.tmp 18) (.cst (.p (.int .i64 0)))⟩,⟨some 20,some (17,true),.bin .lss (.tmp 19) (.cst (.p (.int .u8 128)))⟩,⟨some 21,none,.pick (.tmp 17) (.tmp 20) (.cst (.p (.bool false)))⟩]) (.cond (.tmp 21) (.seq (.region [⟨some 22,none,.mov (.tmp 0)⟩,⟨some 23,none,.mov (.tmp 1)⟩,⟨some 24,none,.istr (.tmp 23) (.cst (.p (.int .i64 0)))⟩,⟨some 25,none,.call 58 [.tmp 22,.tmp 24]⟩,⟨some 4,none,.mov (.tmp 25)⟩]) (.ret)) (.skip))) (.seq (.seq (.region [⟨some 27,none,.mov (.tmp 1)⟩,⟨some 28,none,.call 59 [.tmp 27]⟩,⟨some 26,none,.mov (.tmp 28)⟩,⟨some 29,none,.ext (.tmp 26) 0⟩,⟨some 30,none,.ext (.tmp 26) 1⟩,⟨some 5,none,.newv 256 76 (.cst (.p (.agg [.bool false,.bool false,.bool false,.bool false,.bool false,.bool false,.bool false,.bool false,.bool false,.bool false,.bool false,.bool false,.bool false,.bool false,.bool false,.bool false,.bool false,.bool false,.bool false,.bool false,.bool false,.bool false,.bool false,.bool false,.bool false,.bool false,.bool false,.bool false,.bool false,.bool false,.bool false,.bool false,.bool false,.bool false,.bool false,.bool false,.bool false,.bool false,.bool false,.bool false,.bool false,.bool false,.bool false,.bool false,.bool false,.bool false,.bool false,.bool false,.bool false,.bool false,.bool
 false,.bool false,.bool false,.bool false,.bool false,.bool false,.bool false,.bool false,.bool false,.bool false,.bool false,.bool false,.bool false,.bool false,.bool false,.bool false,.bool false,.bool false,.bool false,.bool false,.bool false,.bool false,.bool false,.bool false,.bool false,.bool false,.bool false,.bool false,.bool false,.bool false,.bool false,.bool false,.bool false,.bool false,.bool false,.bool false,.bool false,.bool false,.bool false,.bool false,.bool false,.bool false,.bool false,.bool false,.bool false,.bool false,.bool false,.bool false,.bool false,.bool false,.bool false,.bool false,.bool false,.bool false,.bool false,.bool false,.bool false,.bool false,.bool false,.bool false,.bool false,.bool false,.bool false,.bool false,.bool false,.bool false,.bool false,.bool false,.bool false,.bool false,.bool false,.bool false,.bool false,.bool false,.bool false,.bool false,.bool false,.bool false,.bool false,.bool false,.bool false,.bool false,.bool false,.bool false,.bool false,.bool false,.bool false,.bool false,.bool false,.bool false,.bool false,.bool false,.bool false,.bool false,.bool false,.bool false,.bool false,.bool false,.bool false,.bool false,.bool false,.bool false,.bool false,.bool false,.bool false,.bool false,.bool false,.bool false,.bool false,.bool false,.bool false,.bool false,.bool false,.bool false,.bool false,.bool false,.bool false,.bool false,.bool false,.bool false,.bool false,.bool false,.bool false,.bool false,.bool false,.bool false,.bool false,.bool false,.bool false,.bool false,.bool false,.bool false,.bool false,.bool false,.bool false,.bool false,.bool false,.bool false,.bool false,.bool false,.bool false,.bool false,.bool false,.bool false,.bool false,.bool false,.bool false,.bool false,.bool false,.bool false,.bool false,.bool false,.bool false,.bool false,.bool false,.bool false,.bool false,.bool false,.bool false,.bool false,.bool false,.bool false,.bool false,.bool false,.bool false,.bool false,.bool
 false,.bool false,.bool false,.bool false,.bool false,.bool false,.bool false,.bool false,.bool false,.bool false,.bool false,.bool false,.bool false,.bool false,.bool false,.bool false,.bool false,.bool false,.bool false,.bool false,.bool false,.bool false,.bool false,.bool false,.bool false,.bool false,.bool false,.bool false,.bool false,.bool false,.bool false,.bool false,.bool false,.bool false,.bool false,.bool false,.bool false,.bool false,.bool false,.bool false])))⟩,⟨none,none,.store 256 (.tmp 5) (.tmp 29)⟩,⟨some 6,none,.mov (.tmp 30)⟩]) (.seq (.region [⟨some 31,none,.mov (.tmp 6)⟩]) (.cond (.tmp 31) (.seq (.region [⟨some 32,none,.mov (.tmp 0)⟩,⟨some 33,none,.call 60 [.tmp 32,.tmp 5]⟩,⟨some 4,none,.mov (.tmp 33)⟩]) (.ret)) (.skip)))) (.seq (.region [⟨some 34,none,.mov (.tmp 0)⟩,⟨some 35,none,.mov (.tmp 1)⟩,⟨some 36,none,.call 61 [.tmp 34,.tmp 35]⟩,⟨some 4,none,.mov (.tmp 36)⟩]) (.ret)))))⟩
theorem low25 : lowFunc Tryz.prog gl0 25 = some lf25 := by kernel_rfl
end Go.Proofs.YtgdpephlpdonnaaGreatDoor
