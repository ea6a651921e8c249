/-
  The lowered code of the reference, each equal to what the program's form lowers to. No conditions.
-/
import Derived.Test.YtepfpgnjpkcgmaaAbsTwo
import Derived.Test.YtepfpgnjpkcgmaaProg
import Derived.Test.YtepfpgnjpkcgmaaNatA
import Derived.KernelRfl
set_option linter.unusedSimpArgs false
set_option linter.unnecessarySimpa false
set_option linter.unusedVariables false
set_option linter.constructorNameAsVariable false

/-
  The lowered code of the functions, as the program's form has it.
-/
namespace Go.Proofs.Ytepfpgnjpkcgmaa
open Go Go.Abs
def lf15 : LFunc := ⟨20,[.slot 2], .seq (.region [⟨some 2,none,.mov (.cst (.p (.bool false)))⟩]) (.seq (.region [⟨some 3,none,.mov (.tmp 0)⟩,⟨some 4,none,.len (.tmp 3)⟩,⟨some 5,none,.bin .leq (.tmp 4) (.cst (.p (.int .i64 64)))⟩,⟨some 6,none,.mov (.tmp 5)⟩,⟨some 7,some (6,true),.mov (.tmp 0)⟩,⟨some 8,some (6,true),.len (.tmp 7)⟩,⟨some 9,some (6,true),.bin .eql (.tmp 8) (.cst (.p (.int .i64 0)))⟩,⟨some 10,some (6,true),.mov (.tmp 9)⟩,⟨some 11,some (10,false),.mov (.tmp 0)⟩,⟨some 12,some (10,false),.mov (.tmp 0)⟩,⟨some 13,some (10,false),.len (.tmp 12)⟩,⟨some 14,some (10,false),.bin .sub (.tmp 13) (.cst (.p (.int .i64 1)))⟩,⟨some 15,some (10,false),.iadr 1 (.tmp 11) (.tmp 14)⟩,⟨some 16,some (10,false),.load 1 false (.tmp 15)⟩,⟨some 17,some (10,false),.bin .neq (.tmp 16) (.cst (.p (.int .u64 0)))⟩,⟨some 18,some (6,true),.pick (.tmp 10) (.cst (.p (.bool true))) (.tmp 17)⟩,⟨some 19,none,.pick (.tmp 6) (.tmp 18) (.cst (.p (.bool false)))⟩,⟨some 2,none,.mov (.tmp 19)⟩]) (.ret))⟩
theorem low15 : lowFunc Try.prog gl0 15 = some lf15 := lowF (by kernel_rfl)
def lf60 : LFunc := ⟨18,[.slot 2], .seq (.region [⟨some 2,none,.mov (.cst (.p (.int .i64 0)))⟩]) (.seq (.seq (.region [⟨some 3,none,.mov (.tmp 0)⟩,⟨some 4,none,.len (.tmp 3)⟩,⟨some 5,none,.bin .eql (.tmp 4) (.cst (.p (.int .i64 0)))⟩]) (.cond (.tmp 5) (.seq (.region [⟨some 2,none,.mov (.cst (.p (.int .i64 0)))⟩]) (.ret)) (.skip))) (.seq (.region [⟨some 6,none,.mov (.tmp 0)⟩,⟨some 7,none,.len (.tmp 6)⟩,⟨some 8,none,.bin .sub (.tmp 7) (.cst (.p (.int .i64 1)))⟩,⟨some 9,none,.bin .mul (.cst (.p (.int .i64 64))) (.tmp 8)⟩,⟨some 10,none,.mov (.tmp 0)⟩,⟨some 11,none,.mov (.tmp 0)⟩,⟨some 12,none,.len (.tmp 11)⟩,⟨some 13,none,.bin .sub (.tmp 12) (.cst (.p (.int .i64 1)))⟩,⟨some 14,none,.iadr 1 (.tmp 10) (.tmp 13)⟩,⟨some 15,none,.load 1 false (.tmp 14)⟩,⟨some 16,none,.call 81 [.tmp 15]⟩,⟨some 17,none,.bin .add (.tmp 9) (.tmp 16)⟩,⟨some 2,none,.mov (.tmp 17)⟩]) (.ret)))⟩
theorem low60 : lowFunc Try.prog gl0 60 = some lf60 := lowF (by kernel_rfl)
def lf57_B0 : LCode := .block 0 (
  .loop (
   .seq (
    .seq (
     .region [
       ⟨(some 6), none, .mov (.tmp 3)⟩,
       ⟨(some 7), none, .bin .gtr (.tmp 6) (.cst (.p (.int .i64 0)))⟩,
       ⟨(some 8), none, .mov (.tmp 7)⟩,
       ⟨(some 9), (some (8, true)), .mov (.tmp 0)⟩,
       ⟨(some 10), (some (8, true)), .mov (.tmp 3)⟩,
       ⟨(some 11), (some (8, true)), .bin .sub (.tmp 10) (.cst (.p (.int .i64 1)))⟩,
       ⟨(some 12), (some (8, true)), .iadr 1 (.tmp 9) (.tmp 11)⟩,
       ⟨(some 13), (some (8, true)), .load 1 false (.tmp 12)⟩,
       ⟨(some 14), (some (8, true)), .bin .eql (.tmp 13) (.cst (.p (.int .u64 0)))⟩,
       ⟨(some 15), none, .pick (.tmp 8) (.tmp 14) (.cst (.p (.bool false)))⟩]) (
     .cond (.tmp 15) (
      .skip) (
      .exit 0))) (
    .block 1 (
     .region [
       ⟨(some 16), none, .mov (.tmp 3)⟩,
       ⟨(some 17), none, .bin .sub (.tmp 16) (.cst (.p (.int .i64 1)))⟩,
       ⟨(some 3), none, .mov (.tmp 17)⟩]))))
def lf57 : LFunc := ⟨23,[.slot 2], .seq (.region [⟨some 2,none,.mov (.cst (.tight []))⟩]) (.seq (.region [⟨some 4,none,.mov (.tmp 0)⟩,⟨some 5,none,.len (.tmp 4)⟩,⟨some 3,none,.mov (.tmp 5)⟩]) (.seq (lf57_B0) (.seq (.region [⟨some 18,none,.buildSl 1 61 (.p (.int .u64 0)) 0 []⟩,⟨some 19,none,.mov (.tmp 0)⟩,⟨some 20,none,.mov (.tmp 3)⟩,⟨some 21,none,.slSl 1 (.tmp 19) none (some (.tmp 20)) none⟩,⟨some 22,none,.app 1 8 61 (.tmp 18) (.tmp 21)⟩,⟨some 2,none,.mov (.tmp 22)⟩]) (.ret))))⟩
theorem low57 : lowFunc Try.prog gl0 57 = some lf57 := lowF (by kernel_rfl)
def lf16_B0 : LCode := .block 0 (
  .loop (
   .seq (
    .seq (
     .region [
       ⟨(some 19), none, .mov (.tmp 5)⟩,
       ⟨(some 20), none, .bin .geq (.tmp 19) (.cst (.p (.int .i64 0)))⟩]) (
     .cond (.tmp 20) (
      .skip) (
      .exit 0))) (
    .seq (
     .block 1 (
      .seq (
       .seq (
        .regionD [
          ⟨(some 23), none, .mov (.tmp 0)⟩,
          ⟨(some 24), none, .mov (.tmp 5)⟩,
          ⟨(some 25), none, .iadr 1 (.tmp 23) (.tmp 24)⟩,
          ⟨(some 26), none, .load 1 false (.tmp 25)⟩,
          ⟨(some 27), none, .mov (.tmp 1)⟩,
          ⟨(some 28), none, .mov (.tmp 5)⟩,
          ⟨(some 29), none, .iadr 1 (.tmp 27) (.tmp 28)⟩,
          ⟨(some 30), none, .load 1 false (.tmp 29)⟩,
          ⟨(some 31), none, .bin .lss (.tmp 26) (.tmp 30)⟩]) (
        .cond (.tmp 31) (
         .seq (
          .region [
            ⟨(some 4), none, .mov (.cst (.p (.int .i64 (-1))))⟩]) (
          .ret)) (
         .skip))) (
       .seq (
        .regionD [
          ⟨(some 32), none, .mov (.tmp 0)⟩,
          ⟨(some 33), none, .mov (.tmp 5)⟩,
          ⟨(some 34), none, .iadr 1 (.tmp 32) (.tmp 33)⟩,
          ⟨(some 35), none, .load 1 false (.tmp 34)⟩,
          ⟨(some 36), none, .mov (.tmp 1)⟩,
          ⟨(some 37), none, .mov (.tmp 5)⟩,
          ⟨(some 38), none, .iadr 1 (.tmp 36) (.tmp 37)⟩,
          ⟨(some 39), none, .load 1 false (.tmp 38)⟩,
          ⟨(some 40), none, .bin .gtr (.tmp 35) (.tmp 39)⟩]) (
        .cond (.tmp 40) (
         .seq (
          .region [
            ⟨(some 4), none, .mov (.cst (.p (.int .i64 1)))⟩]) (
          .ret)) (
         .skip))))) (
     .region [
       ⟨(some 21), none, .mov (.tmp 5)⟩,
       ⟨(some 22), none, .bin .sub (.tmp 21) (.cst (.p (.int .i64 1)))⟩,
       ⟨(some 5), none, .mov (.tmp 22)⟩]))))
def lf16 : LFunc := ⟨41,[.slot 4], .seq (.region [⟨some 4,none,.mov (.cst (.p (.int .i64 0)))⟩]) (.seq (.seq (.region [⟨some 6,none,.mov (.tmp 0)⟩,⟨some 7,none,.len (.tmp 6)⟩,⟨some 8,none,.mov (.tmp 1)⟩,⟨some 9,none,.len (.tmp 8)⟩,⟨some 10,none,.bin .neq (.tmp 7) (.tmp 9)⟩]) (.cond (.tmp 10) (.seq (.seq (.region [⟨some 11,none,.mov (.tmp 0)⟩,⟨some 12,none,.len (.tmp 11)⟩,⟨some 13,none,.mov (.tmp 1)⟩,⟨some 14,none,.len (.tmp 13)⟩,⟨some 15,none,.bin .lss (.tmp 12) (.tmp 14)⟩]) (.cond (.tmp 15) (.seq (.region [⟨some 4,none,.mov (.cst (.p (.int .i64 (-1))))⟩]) (.ret)) (.skip))) (.seq (.region [⟨some 4,none,.mov (.cst (.p (.int .i64 1)))⟩]) (.ret))) (.skip))) (.seq (.seq (.region [⟨some 16,none,.mov (.tmp 0)⟩,⟨some 17,none,.len (.tmp 16)⟩,⟨some 18,none,.bin .sub (.tmp 17) (.cst (.p (.int .i64 1)))⟩,⟨some 5,none,.mov (.tmp 18)⟩]) (lf16_B0)) (.seq (.region [⟨some 4,none,.mov (.cst (.p (.int .i64 0)))⟩]) (.ret))))⟩
theorem low16 : lowFunc Try.prog gl0 16 = some lf16 := lowF (by kernel_rfl)
def lf62_B0 : LCode := .block 0 (
  .loop (
   .seq (
    .seq (
     .region [
       ⟨(some 11), none, .mov (.tmp 7)⟩,
       ⟨(some 12), none, .mov (.tmp 0)⟩,
       ⟨(some 13), none, .len (.tmp 12)⟩,
       ⟨(some 14), none, .bin .lss (.tmp 11) (.tmp 13)⟩]) (
     .cond (.tmp 14) (
      .skip) (
      .exit 0))) (
    .seq (
     .block 1 (
      .seq (
       .region [
         ⟨(some 8), none, .mov (.cst (.p (.int .u64 0)))⟩]) (
       .seq (
        .seq (
         .region [
           ⟨(some 17), none, .mov (.tmp 7)⟩,
           ⟨(some 18), none, .mov (.tmp 1)⟩,
           ⟨(some 19), none, .len (.tmp 18)⟩,
           ⟨(some 20), none, .bin .lss (.tmp 17) (.tmp 19)⟩]) (
         .cond (.tmp 20) (
          .region [
            ⟨(some 21), none, .mov (.tmp 1)⟩,
            ⟨(some 22), none, .mov (.tmp 7)⟩,
            ⟨(some 23), none, .iadr 1 (.tmp 21) (.tmp 22)⟩,
            ⟨(some 24), none, .load 1 false (.tmp 23)⟩,
            ⟨(some 8), none, .mov (.tmp 24)⟩]) (
          .skip))) (
        .seq (
         .region [
           ⟨(some 26), none, .mov (.tmp 0)⟩,
           ⟨(some 27), none, .mov (.tmp 7)⟩,
           ⟨(some 28), none, .iadr 1 (.tmp 26) (.tmp 27)⟩,
           ⟨(some 29), none, .load 1 false (.tmp 28)⟩,
           ⟨(some 30), none, .mov (.tmp 8)⟩,
           ⟨(some 31), none, .mov (.tmp 6)⟩,
           ⟨(some 32), none, .calle 82 [(.tmp 29), (.tmp 30), (.tmp 31)]⟩,
           ⟨(some 25), none, .mov (.tmp 32)⟩,
           ⟨(some 33), none, .ext (.tmp 25) 0⟩,
           ⟨(some 34), none, .ext (.tmp 25) 1⟩,
           ⟨(some 9), none, .mov (.tmp 33)⟩,
           ⟨(some 10), none, .mov (.tmp 34)⟩]) (
         .seq (
          .region [
            ⟨(some 35), none, .mov (.tmp 5)⟩,
            ⟨(some 36), none, .mov (.tmp 9)⟩,
            ⟨(some 37), none, .buildSl 1 61 (.p (.int .u64 0)) 1 [(0, (.tmp 36))]⟩,
            ⟨(some 38), none, .app 1 8 61 (.tmp 35) (.tmp 37)⟩,
            ⟨(some 5), none, .mov (.tmp 38)⟩]) (
          .region [
            ⟨(some 39), none, .mov (.tmp 10)⟩,
            ⟨(some 6), none, .mov (.tmp 39)⟩])))))) (
     .region [
       ⟨(some 15), none, .mov (.tmp 7)⟩,
       ⟨(some 16), none, .bin .add (.tmp 15) (.cst (.p (.int .i64 1)))⟩,
       ⟨(some 7), none, .mov (.tmp 16)⟩]))))
def lf62 : LFunc := ⟨42,[.slot 4], .seq (.region [⟨some 4,none,.mov (.cst (.tight []))⟩]) (.seq (.region [⟨some 5,none,.mov (.cst (.tight []))⟩]) (.seq (.region [⟨some 6,none,.mov (.cst (.p (.int .u64 0)))⟩]) (.seq (.seq (.region [⟨some 7,none,.mov (.cst (.p (.int .i64 0)))⟩]) (lf62_B0)) (.seq (.region [⟨some 40,none,.mov (.tmp 5)⟩,⟨some 41,none,.call 57 [.tmp 40]⟩,⟨some 4,none,.mov (.tmp 41)⟩]) (.ret)))))⟩
theorem low62 : lowFunc Try.prog gl0 62 = some lf62 := lowF (by kernel_rfl)
def lf80_B0 : LCode := .block 2 (
  .loop (
   .seq (
    .seq (
     .region [
       ⟨(some 27), none, .mov (.tmp 8)⟩,
       ⟨(some 28), none, .mov (.tmp 1)⟩,
       ⟨(some 29), none, .len (.tmp 28)⟩,
       ⟨(some 30), none, .bin .lss (.tmp 27) (.tmp 29)⟩]) (
     .cond (.tmp 30) (
      .skip) (
      .exit 2))) (
    .seq (
     .block 3 (
      .seq (
       .regionD [
         ⟨(some 34), none, .mov (.tmp 0)⟩,
         ⟨(some 35), none, .mov (.tmp 6)⟩,
         ⟨(some 36), none, .iadr 1 (.tmp 34) (.tmp 35)⟩,
         ⟨(some 37), none, .load 1 false (.tmp 36)⟩,
         ⟨(some 38), none, .mov (.tmp 1)⟩,
         ⟨(some 39), none, .mov (.tmp 8)⟩,
         ⟨(some 40), none, .iadr 1 (.tmp 38) (.tmp 39)⟩,
         ⟨(some 41), none, .load 1 false (.tmp 40)⟩,
         ⟨(some 42), none, .call 91 [(.tmp 37), (.tmp 41)]⟩,
         ⟨(some 33), none, .mov (.tmp 42)⟩,
         ⟨(some 43), none, .ext (.tmp 33) 0⟩,
         ⟨(some 44), none, .ext (.tmp 33) 1⟩,
         ⟨(some 9), none, .mov (.tmp 43)⟩,
         ⟨(some 10), none, .mov (.tmp 44)⟩]) (
       .seq (
        .region [
          ⟨(some 46), none, .mov (.tmp 5)⟩,
          ⟨(some 47), none, .mov (.tmp 6)⟩,
          ⟨(some 48), none, .mov (.tmp 8)⟩,
          ⟨(some 49), none, .bin .add (.tmp 47) (.tmp 48)⟩,
          ⟨(some 50), none, .iadr 1 (.tmp 46) (.tmp 49)⟩,
          ⟨(some 51), none, .load 1 false (.tmp 50)⟩,
          ⟨(some 52), none, .mov (.tmp 10)⟩,
          ⟨(some 53), none, .calle 83 [(.tmp 51), (.tmp 52), (.cst (.p (.int .u64 0)))]⟩,
          ⟨(some 45), none, .mov (.tmp 53)⟩,
          ⟨(some 54), none, .ext (.tmp 45) 0⟩,
          ⟨(some 55), none, .ext (.tmp 45) 1⟩,
          ⟨(some 11), none, .mov (.tmp 54)⟩,
          ⟨(some 12), none, .mov (.tmp 55)⟩]) (
        .seq (
         .region [
           ⟨(some 57), none, .mov (.tmp 11)⟩,
           ⟨(some 58), none, .mov (.tmp 7)⟩,
           ⟨(some 59), none, .calle 83 [(.tmp 57), (.tmp 58), (.cst (.p (.int .u64 0)))]⟩,
           ⟨(some 56), none, .mov (.tmp 59)⟩,
           ⟨(some 60), none, .ext (.tmp 56) 0⟩,
           ⟨(some 61), none, .ext (.tmp 56) 1⟩,
           ⟨(some 13), none, .mov (.tmp 60)⟩,
           ⟨(some 14), none, .mov (.tmp 61)⟩]) (
         .seq (
          .region [
            ⟨(some 62), none, .mov (.tmp 5)⟩,
            ⟨(some 63), none, .mov (.tmp 6)⟩,
            ⟨(some 64), none, .mov (.tmp 8)⟩,
            ⟨(some 65), none, .bin .add (.tmp 63) (.tmp 64)⟩,
            ⟨(some 66), none, .mov (.tmp 13)⟩,
            ⟨(some 67), none, .iadr 1 (.tmp 62) (.tmp 65)⟩,
            ⟨none, none, .store 1 (.tmp 67) (.tmp 66)⟩]) (
          .region [
            ⟨(some 68), none, .mov (.tmp 9)⟩,
            ⟨(some 69), none, .mov (.tmp 12)⟩,
            ⟨(some 70), none, .bin .add (.tmp 68) (.tmp 69)⟩,
            ⟨(some 71), none, .mov (.tmp 14)⟩,
            ⟨(some 72), none, .bin .add (.tmp 70) (.tmp 71)⟩,
            ⟨(some 7), none, .mov (.tmp 72)⟩])))))) (
     .region [
       ⟨(some 31), none, .mov (.tmp 8)⟩,
       ⟨(some 32), none, .bin .add (.tmp 31) (.cst (.p (.int .i64 1)))⟩,
       ⟨(some 8), none, .mov (.tmp 32)⟩]))))
def lf80_B1 : LCode := .block 0 (
  .loop (
   .seq (
    .seq (
     .region [
       ⟨(some 21), none, .mov (.tmp 6)⟩,
       ⟨(some 22), none, .mov (.tmp 0)⟩,
       ⟨(some 23), none, .len (.tmp 22)⟩,
       ⟨(some 24), none, .bin .lss (.tmp 21) (.tmp 23)⟩]) (
     .cond (.tmp 24) (
      .skip) (
      .exit 0))) (
    .seq (
     .block 1 (
      .seq (
       .region [
         ⟨(some 7), none, .mov (.cst (.p (.int .u64 0)))⟩]) (
       .seq (
        .seq (
         .region [
           ⟨(some 8), none, .mov (.cst (.p (.int .i64 0)))⟩]) (
         lf80_B0)) (
        .region [
          ⟨(some 73), none, .mov (.tmp 5)⟩,
          ⟨(some 74), none, .mov (.tmp 6)⟩,
          ⟨(some 75), none, .mov (.tmp 1)⟩,
          ⟨(some 76), none, .len (.tmp 75)⟩,
          ⟨(some 77), none, .bin .add (.tmp 74) (.tmp 76)⟩,
          ⟨(some 78), none, .mov (.tmp 7)⟩,
          ⟨(some 79), none, .iadr 1 (.tmp 73) (.tmp 77)⟩,
          ⟨none, none, .store 1 (.tmp 79) (.tmp 78)⟩])))) (
     .region [
       ⟨(some 25), none, .mov (.tmp 6)⟩,
       ⟨(some 26), none, .bin .add (.tmp 25) (.cst (.p (.int .i64 1)))⟩,
       ⟨(some 6), none, .mov (.tmp 26)⟩]))))
def lf80 : LFunc := ⟨82,[.slot 4], .seq (.region [⟨some 4,none,.mov (.cst (.tight []))⟩]) (.seq (.region [⟨some 15,none,.mov (.tmp 0)⟩,⟨some 16,none,.len (.tmp 15)⟩,⟨some 17,none,.mov (.tmp 1)⟩,⟨some 18,none,.len (.tmp 17)⟩,⟨some 19,none,.bin .add (.tmp 16) (.tmp 18)⟩,⟨some 20,none,.mksl 1 8 61 (.p (.int .u64 0)) (.tmp 19) (.tmp 19)⟩,⟨some 5,none,.mov (.tmp 20)⟩]) (.seq (.seq (.region [⟨some 6,none,.mov (.cst (.p (.int .i64 0)))⟩]) (lf80_B1)) (.seq (.region [⟨some 80,none,.mov (.tmp 5)⟩,⟨some 81,none,.call 57 [.tmp 80]⟩,⟨some 4,none,.mov (.tmp 81)⟩]) (.ret))))⟩
theorem low80 : lowFunc Try.prog gl0 80 = some lf80 := lowF (by kernel_rfl)
def lf35_B0 : LCode := .block 0 (
  .loop (
   .seq (
    .seq (
     .region [
       ⟨(some 24), none, .mov (.tmp 8)⟩,
       ⟨(some 25), none, .bin .geq (.tmp 24) (.cst (.p (.int .i64 0)))⟩]) (
     .cond (.tmp 25) (
      .skip) (
      .exit 0))) (
    .seq (
     .block 1 (
      .seq (
       .region [
         ⟨(some 28), none, .mov (.tmp 1)⟩,
         ⟨(some 29), none, .mov (.tmp 8)⟩,
         ⟨(some 30), none, .call 61 [(.tmp 28), (.tmp 29)]⟩,
         ⟨(some 9), none, .mov (.tmp 30)⟩]) (
       .seq (
        .region [
          ⟨(some 31), none, .mov (.tmp 7)⟩,
          ⟨(some 32), none, .mov (.tmp 9)⟩,
          ⟨(some 33), none, .call 16 [(.tmp 31), (.tmp 32)]⟩,
          ⟨(some 34), none, .bin .geq (.tmp 33) (.cst (.p (.int .i64 0)))⟩]) (
        .cond (.tmp 34) (
         .seq (
          .region [
            ⟨(some 35), none, .mov (.tmp 7)⟩,
            ⟨(some 36), none, .mov (.tmp 9)⟩,
            ⟨(some 37), none, .call 62 [(.tmp 35), (.tmp 36)]⟩,
            ⟨(some 7), none, .mov (.tmp 37)⟩]) (
          .region [
            ⟨(some 38), none, .mov (.tmp 6)⟩,
            ⟨(some 39), none, .mov (.tmp 8)⟩,
            ⟨(some 40), none, .bin .quo (.tmp 39) (.cst (.p (.int .i64 64)))⟩,
            ⟨(some 41), none, .mov (.tmp 6)⟩,
            ⟨(some 42), none, .mov (.tmp 8)⟩,
            ⟨(some 43), none, .bin .quo (.tmp 42) (.cst (.p (.int .i64 64)))⟩,
            ⟨(some 44), none, .iadr 1 (.tmp 41) (.tmp 43)⟩,
            ⟨(some 45), none, .load 1 false (.tmp 44)⟩,
            ⟨(some 46), none, .mov (.tmp 8)⟩,
            ⟨(some 47), none, .bin .rem (.tmp 46) (.cst (.p (.int .i64 64)))⟩,
            ⟨(some 48), none, .conv (.toInt .u64) (.tmp 47)⟩,
            ⟨(some 49), none, .bin .shl (.cst (.p (.int .u64 1))) (.tmp 48)⟩,
            ⟨(some 50), none, .bin .or (.tmp 45) (.tmp 49)⟩,
            ⟨(some 51), none, .iadr 1 (.tmp 38) (.tmp 40)⟩,
            ⟨none, none, .store 1 (.tmp 51) (.tmp 50)⟩])) (
         .skip))))) (
     .region [
       ⟨(some 26), none, .mov (.tmp 8)⟩,
       ⟨(some 27), none, .bin .sub (.tmp 26) (.cst (.p (.int .i64 1)))⟩,
       ⟨(some 8), none, .mov (.tmp 27)⟩]))))
def lf35 : LFunc := ⟨55,[.slot 4,.slot 5], .seq (.region [⟨some 4,none,.mov (.cst (.tight []))⟩,⟨some 5,none,.mov (.cst (.tight []))⟩]) (.seq (.seq (.region [⟨some 10,none,.mov (.tmp 0)⟩,⟨some 11,none,.mov (.tmp 1)⟩,⟨some 12,none,.call 16 [.tmp 10,.tmp 11]⟩,⟨some 13,none,.bin .lss (.tmp 12) (.cst (.p (.int .i64 0)))⟩]) (.cond (.tmp 13) (.seq (.region [⟨some 14,none,.mov (.tmp 0)⟩,⟨some 4,none,.mov (.cst (.tight []))⟩,⟨some 5,none,.mov (.tmp 14)⟩]) (.ret)) (.skip))) (.seq (.region [⟨some 15,none,.mov (.tmp 0)⟩,⟨some 16,none,.len (.tmp 15)⟩,⟨some 17,none,.mksl 1 8 61 (.p (.int .u64 0)) (.tmp 16) (.tmp 16)⟩,⟨some 6,none,.mov (.tmp 17)⟩]) (.seq (.region [⟨some 18,none,.mov (.tmp 0)⟩,⟨some 7,none,.mov (.tmp 18)⟩]) (.seq (.seq (.region [⟨some 19,none,.mov (.tmp 0)⟩,⟨some 20,none,.call 60 [.tmp 19]⟩,⟨some 21,none,.mov (.tmp 1)⟩,⟨some 22,none,.call 60 [.tmp 21]⟩,⟨some 23,none,.bin .sub (.tmp 20) (.tmp 22)⟩,⟨some 8,none,.mov (.tmp 23)⟩]) (lf35_B0)) (.seq (.region [⟨some 52,none,.mov (.tmp 6)⟩,⟨some 53,none,.call 57 [.tmp 52]⟩,⟨some 54,none,.mov (.tmp 7)⟩,⟨some 4,none,.mov (.tmp 53)⟩,⟨some 5,none,.mov (.tmp 54)⟩]) (.ret))))))⟩
theorem low35 : lowFunc Try.prog gl0 35 = some lf35 := lowF (by kernel_rfl)
def lf17_B0 : LCode := .block 0 (
  .loop (
   .seq (
    .seq (
     .region [
       ⟨(some 7), none, .mov (.tmp 1)⟩,
       ⟨(some 8), none, .len (.tmp 7)⟩,
       ⟨(some 9), none, .bin .gtr (.tmp 8) (.cst (.p (.int .i64 0)))⟩]) (
     .cond (.tmp 9) (
      .skip) (
      .exit 0))) (
    .block 1 (
     .seq (
      .region [
        ⟨(some 11), none, .mov (.tmp 0)⟩,
        ⟨(some 12), none, .mov (.tmp 1)⟩,
        ⟨(some 13), none, .call 35 [(.tmp 11), (.tmp 12)]⟩,
        ⟨(some 10), none, .mov (.tmp 13)⟩,
        ⟨(some 14), none, .ext (.tmp 10) 0⟩,
        ⟨(some 15), none, .ext (.tmp 10) 1⟩,
        ⟨(some 5), none, .mov (.tmp 14)⟩,
        ⟨(some 6), none, .mov (.tmp 15)⟩]) (
      .region [
        ⟨(some 16), none, .mov (.tmp 1)⟩,
        ⟨(some 17), none, .mov (.tmp 6)⟩,
        ⟨(some 0), none, .mov (.tmp 16)⟩,
        ⟨(some 1), none, .mov (.tmp 17)⟩])))))
def lf17 : LFunc := ⟨19,[.slot 4], .seq (.region [⟨some 4,none,.mov (.cst (.tight []))⟩]) (.seq (lf17_B0) (.seq (.region [⟨some 18,none,.mov (.tmp 0)⟩,⟨some 4,none,.mov (.tmp 18)⟩]) (.ret)))⟩
theorem low17 : lowFunc Try.prog gl0 17 = some lf17 := lowF (by kernel_rfl)
def lf61_B0 : LCode := .block 0 (
  .loop (
   .seq (
    .seq (
     .region [
       ⟨(some 31), none, .mov (.tmp 8)⟩,
       ⟨(some 32), none, .mov (.tmp 6)⟩,
       ⟨(some 33), none, .len (.tmp 32)⟩,
       ⟨(some 34), none, .bin .lss (.tmp 31) (.tmp 33)⟩,
       ⟨(some 35), none, .mov (.tmp 34)⟩,
       ⟨(some 36), (some (35, true)), .mov (.tmp 7)⟩,
       ⟨(some 37), (some (35, true)), .bin .gtr (.tmp 36) (.cst (.p (.int .u64 0)))⟩,
       ⟨(some 38), none, .pick (.tmp 35) (.tmp 37) (.cst (.p (.bool false)))⟩]) (
     .cond (.tmp 38) (
      .skip) (
      .exit 0))) (
    .seq (
     .block 1 (
      .seq (
       .region [
         ⟨(some 41), none, .mov (.tmp 6)⟩,
         ⟨(some 42), none, .mov (.tmp 8)⟩,
         ⟨(some 43), none, .mov (.tmp 6)⟩,
         ⟨(some 44), none, .mov (.tmp 8)⟩,
         ⟨(some 45), none, .iadr 1 (.tmp 43) (.tmp 44)⟩,
         ⟨(some 46), none, .load 1 false (.tmp 45)⟩,
         ⟨(some 47), none, .mov (.tmp 7)⟩,
         ⟨(some 48), none, .bin .shr (.tmp 46) (.tmp 47)⟩,
         ⟨(some 49), none, .iadr 1 (.tmp 41) (.tmp 42)⟩,
         ⟨none, none, .store 1 (.tmp 49) (.tmp 48)⟩]) (
       .seq (
        .region [
          ⟨(some 50), none, .mov (.tmp 8)⟩,
          ⟨(some 51), none, .bin .add (.tmp 50) (.cst (.p (.int .i64 1)))⟩,
          ⟨(some 52), none, .mov (.tmp 6)⟩,
          ⟨(some 53), none, .len (.tmp 52)⟩,
          ⟨(some 54), none, .bin .lss (.tmp 51) (.tmp 53)⟩]) (
        .cond (.tmp 54) (
         .regionW [
           (⟨(some 55), none, .mov (.tmp 6)⟩, .f),
           (⟨(some 56), none, .mov (.tmp 8)⟩, .f),
           (⟨(some 57), none, .mov (.tmp 6)⟩, .f),
           (⟨(some 58), none, .mov (.tmp 8)⟩, .f),
           (⟨(some 59), none, .iadr 1 (.tmp 57) (.tmp 58)⟩, .f),
           (⟨(some 60), none, .load 1 false (.tmp 59)⟩, .f),
           (⟨(some 61), none, .mov (.tmp 6)⟩, .f),
           (⟨(some 62), none, .mov (.tmp 8)⟩, .f),
           (⟨(some 63), none, .bin .add (.tmp 62) (.cst (.p (.int .i64 1)))⟩, .f),
           (⟨(some 64), none, .iadr 1 (.tmp 61) (.tmp 63)⟩, .f),
           (⟨(some 65), none, .load 1 false (.tmp 64)⟩, .f),
           (⟨(some 66), none, .mov (.tmp 7)⟩, .f),
           (⟨(some 67), none, .bin .sub (.cst (.p (.int .u64 64))) (.tmp 66)⟩, .f),
           (⟨(some 68), none, .bin .shl (.tmp 65) (.tmp 67)⟩, .f),
           (⟨(some 69), none, .bin .or (.tmp 60) (.tmp 68)⟩, .f),
           (⟨(some 70), none, .iadr 1 (.tmp 55) (.tmp 56)⟩, .f),
           (⟨none, none, .store 1 (.tmp 70) (.tmp 69)⟩, .f)]) (
         .skip))))) (
     .region [
       ⟨(some 39), none, .mov (.tmp 8)⟩,
       ⟨(some 40), none, .bin .add (.tmp 39) (.cst (.p (.int .i64 1)))⟩,
       ⟨(some 8), none, .mov (.tmp 40)⟩]))))
def lf61_B1 : LCode := .block 2 (
  .loop (
   .seq (
    .seq (
     .region [
       ⟨(some 79), none, .mov (.tmp 12)⟩,
       ⟨(some 80), none, .mov (.tmp 0)⟩,
       ⟨(some 81), none, .len (.tmp 80)⟩,
       ⟨(some 82), none, .bin .lss (.tmp 79) (.tmp 81)⟩]) (
     .cond (.tmp 82) (
      .skip) (
      .exit 2))) (
    .seq (
     .block 3 (
      .seq (
       .region [
         ⟨(some 85), none, .mov (.tmp 9)⟩,
         ⟨(some 86), none, .mov (.tmp 0)⟩,
         ⟨(some 87), none, .mov (.tmp 12)⟩,
         ⟨(some 88), none, .iadr 1 (.tmp 86) (.tmp 87)⟩,
         ⟨(some 89), none, .load 1 false (.tmp 88)⟩,
         ⟨(some 90), none, .mov (.tmp 10)⟩,
         ⟨(some 91), none, .bin .shl (.tmp 89) (.tmp 90)⟩,
         ⟨(some 92), none, .mov (.tmp 11)⟩,
         ⟨(some 93), none, .bin .or (.tmp 91) (.tmp 92)⟩,
         ⟨(some 94), none, .buildSl 1 61 (.p (.int .u64 0)) 1 [(0, (.tmp 93))]⟩,
         ⟨(some 95), none, .app 1 8 61 (.tmp 85) (.tmp 94)⟩,
         ⟨(some 9), none, .mov (.tmp 95)⟩]) (
       .seq (
        .region [
          ⟨(some 11), none, .mov (.cst (.p (.int .u64 0)))⟩]) (
        .seq (
         .region [
           ⟨(some 96), none, .mov (.tmp 10)⟩,
           ⟨(some 97), none, .bin .gtr (.tmp 96) (.cst (.p (.int .u64 0)))⟩]) (
         .cond (.tmp 97) (
          .region [
            ⟨(some 98), none, .mov (.tmp 0)⟩,
            ⟨(some 99), none, .mov (.tmp 12)⟩,
            ⟨(some 100), none, .iadr 1 (.tmp 98) (.tmp 99)⟩,
            ⟨(some 101), none, .load 1 false (.tmp 100)⟩,
            ⟨(some 102), none, .mov (.tmp 10)⟩,
            ⟨(some 103), none, .bin .sub (.cst (.p (.int .u64 64))) (.tmp 102)⟩,
            ⟨(some 104), none, .bin .shr (.tmp 101) (.tmp 103)⟩,
            ⟨(some 11), none, .mov (.tmp 104)⟩]) (
          .skip)))))) (
     .region [
       ⟨(some 83), none, .mov (.tmp 12)⟩,
       ⟨(some 84), none, .bin .add (.tmp 83) (.cst (.p (.int .i64 1)))⟩,
       ⟨(some 12), none, .mov (.tmp 84)⟩]))))
def lf61 : LFunc := ⟨110,[.slot 4], .seq (.region [⟨some 4,none,.mov (.cst (.tight []))⟩]) (.seq (.seq (.region [⟨some 13,none,.mov (.tmp 1)⟩,⟨some 14,none,.bin .lss (.tmp 13) (.cst (.p (.int .i64 0)))⟩]) (.cond (.tmp 14) (.seq (.region [⟨some 15,none,.mov (.tmp 1)⟩,⟨some 16,none,.un .neg (.tmp 15)⟩,⟨some 17,none,.bin .quo (.tmp 16) (.cst (.p (.int .i64 64)))⟩,⟨some 5,none,.mov (.tmp 17)⟩]) (.seq (.seq (.region [⟨some 18,none,.mov (.tmp 5)⟩,⟨some 19,none,.mov (.tmp 0)⟩,⟨some 20,none,.len (.tmp 19)⟩,⟨some 21,none,.bin .geq (.tmp 18) (.tmp 20)⟩]) (.cond (.tmp 21) (.seq (.region [⟨some 4,none,.mov (.cst (.tight []))⟩]) (.ret)) (.skip))) (.seq (.region [⟨some 22,none,.buildSl 1 61 (.p (.int .u64 0)) 0 []⟩,⟨some 23,none,.mov (.tmp 0)⟩,⟨some 24,none,.mov (.tmp 5)⟩,⟨some 25,none,.slSl 1 (.tmp 23) (some (.tmp 24)) none none⟩,⟨some 26,none,.app 1 8 61 (.tmp 22) (.tmp 25)⟩,⟨some 6,none,.mov (.tmp 26)⟩]) (.seq (.region [⟨some 27,none,.mov (.tmp 1)⟩,⟨some 28,none,.un .neg (.tmp 27)⟩,⟨some 29,none,.bin .rem (.tmp 28) (.cst (.p (.int .i64 64)))⟩,⟨some 30,none,.conv (.toInt .u64) (.tmp 29)⟩,⟨some 7,none,.mov (.tmp 30)⟩]) (.seq (.seq (.region [⟨some 8,none,.mov (.cst (.p (.int .i64 0)))⟩]) (lf61_B0)) (.seq (.region [⟨some 71,none,.mov (.tmp 6)⟩,⟨some 72,none,.call 57 [.tmp 71]⟩,⟨some 4,none,.mov (.tmp 72)⟩]) (.ret))))))) (.skip))) (.seq (.region [⟨some 73,none,.mov (.tmp 1)⟩,⟨some 74,none,.bin .quo (.tmp 73) (.cst (.p (.int .i64 64)))⟩,⟨some 75,none,.mksl 1 8 61 (.p (.int .u64 0)) (.tmp 74) (.tmp 74)⟩,⟨some 9,none,.mov (.tmp 75)⟩]) (.seq (.region [⟨some 76,none,.mov (.tmp 1)⟩,⟨some 77,none,.bin .rem (.tmp 76) (.cst (.p (.int .i64 64)))⟩,⟨some 78,none,.conv (.toInt .u64) (.tmp 77)⟩,⟨some 10,none,.mov (.tmp 78)⟩]) (.seq (.region [⟨some 11,none,.mov (.cst (.p (.int .u64 0)))⟩]) (.seq (.seq (.region [⟨some 12,none,.mov (.cst (.p (.int .i64 0)))⟩]) (lf61_B1)) (.seq (.region [⟨some 105,none,.mov (.tmp 9)⟩,⟨some 106,none,.mov (.tmp 11)⟩,⟨some 107,none,.buildSl 1 61 (.p (.int .u64 0)) 1
 [(0,(.tmp 106))]⟩,⟨some 108,none,.app 1 8 61 (.tmp 105) (.tmp 107)⟩,⟨some 109,none,.call 57 [.tmp 108]⟩,⟨some 4,none,.mov (.tmp 109)⟩]) (.ret)))))))⟩
theorem low61 : lowFunc Try.prog gl0 61 = some lf61 := lowF (by kernel_rfl)
end Go.Proofs.Ytepfpgnjpkcgmaa
