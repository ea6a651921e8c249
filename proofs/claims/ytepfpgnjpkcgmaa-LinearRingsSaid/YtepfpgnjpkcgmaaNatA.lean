/-
  The lowered code of the functions of nat and bits, each equal to what the program's form lowers to. No conditions.
-/
import Derived.Test.YtepfpgnjpkcgmaaAbsTwo
import Derived.Test.YtepfpgnjpkcgmaaProg
import Derived.KernelRfl
set_option linter.unusedSimpArgs false
set_option linter.unnecessarySimpa false
set_option linter.unusedVariables false
set_option linter.constructorNameAsVariable false

/-
  The lowered code of the functions, as the program's form has it.
-/
namespace Go.Proofs.Ytepfpgnjpkcgmaa
open Go Go.Abs
def gl0 : Nat → AVal := fun _ => .junk
def lf76 : LFunc := ⟨20,[.slot 4], .seq (.region [⟨some 4,none,.mov (.cst (.p (.int .i64 0)))⟩]) (.seq (.region [⟨some 7,none,.mov (.tmp 0)⟩,⟨some 8,none,.call 92 [.tmp 7]⟩,⟨some 5,none,.mov (.tmp 8)⟩]) (.seq (.region [⟨some 9,none,.mov (.tmp 1)⟩,⟨some 10,none,.call 92 [.tmp 9]⟩,⟨some 6,none,.mov (.tmp 10)⟩]) (.seq (.seq (.region [⟨some 11,none,.mov (.tmp 5)⟩]) (.cond (.tmp 11) (.seq (.seq (.region [⟨some 12,none,.mov (.tmp 6)⟩]) (.cond (.tmp 12) (.seq (.region [⟨some 4,none,.mov (.cst (.p (.int .i64 0)))⟩]) (.ret)) (.skip))) (.seq (.region [⟨some 4,none,.mov (.cst (.p (.int .i64 (-1))))⟩]) (.ret))) (.skip))) (.seq (.seq (.region [⟨some 13,none,.mov (.tmp 6)⟩]) (.cond (.tmp 13) (.seq (.region [⟨some 4,none,.mov (.cst (.p (.int .i64 1)))⟩]) (.ret)) (.skip))) (.seq (.seq (.region [⟨some 14,none,.mov (.tmp 0)⟩,⟨some 15,none,.mov (.tmp 1)⟩,⟨some 16,none,.bin .lss (.tmp 14) (.tmp 15)⟩]) (.cond (.tmp 16) (.seq (.region [⟨some 4,none,.mov (.cst (.p (.int .i64 (-1))))⟩]) (.ret)) (.skip))) (.seq (.seq (.region [⟨some 17,none,.mov (.tmp 0)⟩,⟨some 18,none,.mov (.tmp 1)⟩,⟨some 19,none,.bin .gtr (.tmp 17) (.tmp 18)⟩]) (.cond (.tmp 19) (.seq (.region [⟨some 4,none,.mov (.cst (.p (.int .i64 1)))⟩]) (.ret)) (.skip))) (.seq (.region [⟨some 4,none,.mov (.cst (.p (.int .i64 0)))⟩]) (.ret))))))))⟩
theorem low76 : lowFunc Try.prog gl0 76 = some lf76 := lowF (by kernel_rfl)
def lf77 : LFunc := ⟨20,[.slot 4], .seq (.region [⟨some 4,none,.mov (.cst (.p (.int .i64 0)))⟩]) (.seq (.region [⟨some 7,none,.mov (.tmp 0)⟩,⟨some 8,none,.call 93 [.tmp 7]⟩,⟨some 5,none,.mov (.tmp 8)⟩]) (.seq (.region [⟨some 9,none,.mov (.tmp 1)⟩,⟨some 10,none,.call 93 [.tmp 9]⟩,⟨some 6,none,.mov (.tmp 10)⟩]) (.seq (.seq (.region [⟨some 11,none,.mov (.tmp 5)⟩]) (.cond (.tmp 11) (.seq (.seq (.region [⟨some 12,none,.mov (.tmp 6)⟩]) (.cond (.tmp 12) (.seq (.region [⟨some 4,none,.mov (.cst (.p (.int .i64 0)))⟩]) (.ret)) (.skip))) (.seq (.region [⟨some 4,none,.mov (.cst (.p (.int .i64 (-1))))⟩]) (.ret))) (.skip))) (.seq (.seq (.region [⟨some 13,none,.mov (.tmp 6)⟩]) (.cond (.tmp 13) (.seq (.region [⟨some 4,none,.mov (.cst (.p (.int .i64 1)))⟩]) (.ret)) (.skip))) (.seq (.seq (.region [⟨some 14,none,.mov (.tmp 0)⟩,⟨some 15,none,.mov (.tmp 1)⟩,⟨some 16,none,.bin .lss (.tmp 14) (.tmp 15)⟩]) (.cond (.tmp 16) (.seq (.region [⟨some 4,none,.mov (.cst (.p (.int .i64 (-1))))⟩]) (.ret)) (.skip))) (.seq (.seq (.region [⟨some 17,none,.mov (.tmp 0)⟩,⟨some 18,none,.mov (.tmp 1)⟩,⟨some 19,none,.bin .gtr (.tmp 17) (.tmp 18)⟩]) (.cond (.tmp 19) (.seq (.region [⟨some 4,none,.mov (.cst (.p (.int .i64 1)))⟩]) (.ret)) (.skip))) (.seq (.region [⟨some 4,none,.mov (.cst (.p (.int .i64 0)))⟩]) (.ret))))))))⟩
theorem low77 : lowFunc Try.prog gl0 77 = some lf77 := lowF (by kernel_rfl)
def lf92 : LFunc := ⟨6,[.slot 2], .seq (.region [⟨some 2,none,.mov (.cst (.p (.bool false)))⟩]) (.seq (.region [⟨some 3,none,.mov (.tmp 0)⟩,⟨some 4,none,.mov (.tmp 0)⟩,⟨some 5,none,.bin .neq (.tmp 3) (.tmp 4)⟩,⟨some 2,none,.mov (.tmp 5)⟩]) (.ret))⟩
theorem low92 : lowFunc Try.prog gl0 92 = some lf92 := lowF (by kernel_rfl)
def lf93 : LFunc := ⟨6,[.slot 2], .seq (.region [⟨some 2,none,.mov (.cst (.p (.bool false)))⟩]) (.seq (.region [⟨some 3,none,.mov (.tmp 0)⟩,⟨some 4,none,.mov (.tmp 0)⟩,⟨some 5,none,.bin .neq (.tmp 3) (.tmp 4)⟩,⟨some 2,none,.mov (.tmp 5)⟩]) (.ret))⟩
theorem low93 : lowFunc Try.prog gl0 93 = some lf93 := lowF (by kernel_rfl)
def lf94_B0 : LCode := .block 0 (
  .loop (
   .seq (
    .seq (
     .region [
       ⟨(some 67), none, .mov (.tmp 15)⟩,
       ⟨(some 68), none, .bin .geq (.tmp 67) (.cst (.p (.int .u64 4294967296)))⟩,
       ⟨(some 69), none, .mov (.tmp 68)⟩,
       ⟨(some 70), (some (69, false)), .mov (.tmp 15)⟩,
       ⟨(some 71), (some (69, false)), .mov (.tmp 10)⟩,
       ⟨(some 72), (some (69, false)), .bin .mul (.tmp 70) (.tmp 71)⟩,
       ⟨(some 73), (some (69, false)), .mov (.tmp 16)⟩,
       ⟨(some 74), (some (69, false)), .bin .mul (.cst (.p (.int .u64 4294967296))) (.tmp 73)⟩,
       ⟨(some 75), (some (69, false)), .mov (.tmp 13)⟩,
       ⟨(some 76), (some (69, false)), .bin .add (.tmp 74) (.tmp 75)⟩,
       ⟨(some 77), (some (69, false)), .bin .gtr (.tmp 72) (.tmp 76)⟩,
       ⟨(some 78), none, .pick (.tmp 69) (.cst (.p (.bool true))) (.tmp 77)⟩]) (
     .cond (.tmp 78) (
      .skip) (
      .exit 0))) (
    .block 1 (
     .seq (
      .region [
        ⟨(some 79), none, .mov (.tmp 15)⟩,
        ⟨(some 80), none, .bin .sub (.tmp 79) (.cst (.p (.int .u64 1)))⟩,
        ⟨(some 15), none, .mov (.tmp 80)⟩]) (
      .seq (
       .region [
         ⟨(some 81), none, .mov (.tmp 16)⟩,
         ⟨(some 82), none, .mov (.tmp 9)⟩,
         ⟨(some 83), none, .bin .add (.tmp 81) (.tmp 82)⟩,
         ⟨(some 16), none, .mov (.tmp 83)⟩]) (
       .seq (
        .region [
          ⟨(some 84), none, .mov (.tmp 16)⟩,
          ⟨(some 85), none, .bin .geq (.tmp 84) (.cst (.p (.int .u64 4294967296)))⟩]) (
        .cond (.tmp 85) (
         .exit 0) (
         .skip))))))))
def lf94_B1 : LCode := .block 2 (
  .loop (
   .seq (
    .seq (
     .region [
       ⟨(some 102), none, .mov (.tmp 18)⟩,
       ⟨(some 103), none, .bin .geq (.tmp 102) (.cst (.p (.int .u64 4294967296)))⟩,
       ⟨(some 104), none, .mov (.tmp 103)⟩,
       ⟨(some 105), (some (104, false)), .mov (.tmp 18)⟩,
       ⟨(some 106), (some (104, false)), .mov (.tmp 10)⟩,
       ⟨(some 107), (some (104, false)), .bin .mul (.tmp 105) (.tmp 106)⟩,
       ⟨(some 108), (some (104, false)), .mov (.tmp 16)⟩,
       ⟨(some 109), (some (104, false)), .bin .mul (.cst (.p (.int .u64 4294967296))) (.tmp 108)⟩,
       ⟨(some 110), (some (104, false)), .mov (.tmp 14)⟩,
       ⟨(some 111), (some (104, false)), .bin .add (.tmp 109) (.tmp 110)⟩,
       ⟨(some 112), (some (104, false)), .bin .gtr (.tmp 107) (.tmp 111)⟩,
       ⟨(some 113), none, .pick (.tmp 104) (.cst (.p (.bool true))) (.tmp 112)⟩]) (
     .cond (.tmp 113) (
      .skip) (
      .exit 2))) (
    .block 3 (
     .seq (
      .region [
        ⟨(some 114), none, .mov (.tmp 18)⟩,
        ⟨(some 115), none, .bin .sub (.tmp 114) (.cst (.p (.int .u64 1)))⟩,
        ⟨(some 18), none, .mov (.tmp 115)⟩]) (
      .seq (
       .region [
         ⟨(some 116), none, .mov (.tmp 16)⟩,
         ⟨(some 117), none, .mov (.tmp 9)⟩,
         ⟨(some 118), none, .bin .add (.tmp 116) (.tmp 117)⟩,
         ⟨(some 16), none, .mov (.tmp 118)⟩]) (
       .seq (
        .region [
          ⟨(some 119), none, .mov (.tmp 16)⟩,
          ⟨(some 120), none, .bin .geq (.tmp 119) (.cst (.p (.int .u64 4294967296)))⟩]) (
        .cond (.tmp 120) (
         .exit 2) (
         .skip))))))))
def lf94 : LFunc := ⟨135,[.slot 6,.slot 7], .seq (.region [⟨some 6,none,.mov (.cst (.p (.int .u64 0)))⟩,⟨some 7,none,.mov (.cst (.p (.int .u64 0)))⟩]) (.seq (.seq (.region [⟨some 19,none,.mov (.tmp 2)⟩,⟨some 20,none,.bin .eql (.tmp 19) (.cst (.p (.int .u64 0)))⟩]) (.cond (.tmp 20) (.region [⟨some 21,none,.load 1 false (.cst .junk)⟩,⟨none,none,.bad⟩]) (.skip))) (.seq (.seq (.region [⟨some 22,none,.mov (.tmp 2)⟩,⟨some 23,none,.mov (.tmp 0)⟩,⟨some 24,none,.bin .leq (.tmp 22) (.tmp 23)⟩]) (.cond (.tmp 24) (.region [⟨some 25,none,.load 1 false (.cst .junk)⟩,⟨none,none,.bad⟩]) (.skip))) (.seq (.seq (.region [⟨some 26,none,.mov (.tmp 0)⟩,⟨some 27,none,.bin .eql (.tmp 26) (.cst (.p (.int .u64 0)))⟩]) (.cond (.tmp 27) (.seq (.regionD [⟨some 28,none,.mov (.tmp 1)⟩,⟨some 29,none,.mov (.tmp 2)⟩,⟨some 30,none,.bin .quo (.tmp 28) (.tmp 29)⟩,⟨some 31,none,.mov (.tmp 1)⟩,⟨some 32,none,.mov (.tmp 2)⟩,⟨some 33,none,.bin .rem (.tmp 31) (.tmp 32)⟩,⟨some 6,none,.mov (.tmp 30)⟩,⟨some 7,none,.mov (.tmp 33)⟩]) (.ret)) (.skip))) (.seq (.region [⟨some 34,none,.mov (.tmp 2)⟩,⟨some 35,none,.call 85 [.tmp 34]⟩,⟨some 36,none,.conv (.toInt .u64) (.tmp 35)⟩,⟨some 8,none,.mov (.tmp 36)⟩]) (.seq (.region [⟨some 37,none,.mov (.tmp 2)⟩,⟨some 38,none,.mov (.tmp 8)⟩,⟨some 39,none,.bin .shl (.tmp 37) (.tmp 38)⟩,⟨some 2,none,.mov (.tmp 39)⟩]) (.seq (.region [⟨some 40,none,.mov (.tmp 2)⟩,⟨some 41,none,.bin .shr (.tmp 40) (.cst (.p (.int .u64 32)))⟩,⟨some 9,none,.mov (.tmp 41)⟩]) (.seq (.region [⟨some 42,none,.mov (.tmp 2)⟩,⟨some 43,none,.bin .and (.tmp 42) (.cst (.p (.int .u64 4294967295)))⟩,⟨some 10,none,.mov (.tmp 43)⟩]) (.seq (.region [⟨some 44,none,.mov (.tmp 0)⟩,⟨some 45,none,.mov (.tmp 8)⟩,⟨some 46,none,.bin .shl (.tmp 44) (.tmp 45)⟩,⟨some 47,none,.mov (.tmp 1)⟩,⟨some 48,none,.mov (.tmp 8)⟩,⟨some 49,none,.bin .sub (.cst (.p (.int .u64 64))) (.tmp 48)⟩,⟨some 50,none,.bin .shr (.tmp 47) (.tmp 49)⟩,⟨some 51,none,.bin .or (.tmp 46) (.tmp 50)⟩,⟨some 11,none,.mov (.tmp 51)⟩]) (.seq (.region [⟨some
 52,none,.mov (.tmp 1)⟩,⟨some 53,none,.mov (.tmp 8)⟩,⟨some 54,none,.bin .shl (.tmp 52) (.tmp 53)⟩,⟨some 12,none,.mov (.tmp 54)⟩]) (.seq (.region [⟨some 55,none,.mov (.tmp 12)⟩,⟨some 56,none,.bin .shr (.tmp 55) (.cst (.p (.int .u64 32)))⟩,⟨some 13,none,.mov (.tmp 56)⟩]) (.seq (.region [⟨some 57,none,.mov (.tmp 12)⟩,⟨some 58,none,.bin .and (.tmp 57) (.cst (.p (.int .u64 4294967295)))⟩,⟨some 14,none,.mov (.tmp 58)⟩]) (.seq (.region [⟨some 59,none,.mov (.tmp 11)⟩,⟨some 60,none,.mov (.tmp 9)⟩,⟨some 61,none,.bin .quo (.tmp 59) (.tmp 60)⟩,⟨some 15,none,.mov (.tmp 61)⟩]) (.seq (.region [⟨some 62,none,.mov (.tmp 11)⟩,⟨some 63,none,.mov (.tmp 15)⟩,⟨some 64,none,.mov (.tmp 9)⟩,⟨some 65,none,.bin .mul (.tmp 63) (.tmp 64)⟩,⟨some 66,none,.bin .sub (.tmp 62) (.tmp 65)⟩,⟨some 16,none,.mov (.tmp 66)⟩]) (.seq (lf94_B0) (.seq (.region [⟨some 86,none,.mov (.tmp 11)⟩,⟨some 87,none,.bin .mul (.tmp 86) (.cst (.p (.int .u64 4294967296)))⟩,⟨some 88,none,.mov (.tmp 13)⟩,⟨some 89,none,.bin .add (.tmp 87) (.tmp 88)⟩,⟨some 90,none,.mov (.tmp 15)⟩,⟨some 91,none,.mov (.tmp 2)⟩,⟨some 92,none,.bin .mul (.tmp 90) (.tmp 91)⟩,⟨some 93,none,.bin .sub (.tmp 89) (.tmp 92)⟩,⟨some 17,none,.mov (.tmp 93)⟩]) (.seq (.region [⟨some 94,none,.mov (.tmp 17)⟩,⟨some 95,none,.mov (.tmp 9)⟩,⟨some 96,none,.bin .quo (.tmp 94) (.tmp 95)⟩,⟨some 18,none,.mov (.tmp 96)⟩]) (.seq (.region [⟨some 97,none,.mov (.tmp 17)⟩,⟨some 98,none,.mov (.tmp 18)⟩,⟨some 99,none,.mov (.tmp 9)⟩,⟨some 100,none,.bin .mul (.tmp 98) (.tmp 99)⟩,⟨some 101,none,.bin .sub (.tmp 97) (.tmp 100)⟩,⟨some 16,none,.mov (.tmp 101)⟩]) (.seq (lf94_B1) (.seq (.region [⟨some 121,none,.mov (.tmp 15)⟩,⟨some 122,none,.bin .mul (.tmp 121) (.cst (.p (.int .u64 4294967296)))⟩,⟨some 123,none,.mov (.tmp 18)⟩,⟨some 124,none,.bin .add (.tmp 122) (.tmp 123)⟩,⟨some 125,none,.mov (.tmp 17)⟩,⟨some 126,none,.bin .mul (.tmp 125) (.cst (.p (.int .u64 4294967296)))⟩,⟨some 127,none,.mov (.tmp 14)⟩,⟨some 128,none,.bin .add (.tmp 126) (.tmp 127)⟩,⟨some 129,none,.mov (.tmp 18)⟩,⟨some
 130,none,.mov (.tmp 2)⟩,⟨some 131,none,.bin .mul (.tmp 129) (.tmp 130)⟩,⟨some 132,none,.bin .sub (.tmp 128) (.tmp 131)⟩,⟨some 133,none,.mov (.tmp 8)⟩,⟨some 134,none,.bin .shr (.tmp 132) (.tmp 133)⟩,⟨some 6,none,.mov (.tmp 124)⟩,⟨some 7,none,.mov (.tmp 134)⟩]) (.ret))))))))))))))))))))⟩
theorem low94 : lowFunc Try.prog gl0 94 = some lf94 := lowF (by kernel_rfl)
def lf85 : LFunc := ⟨6,[.slot 2], .seq (.region [⟨some 2,none,.mov (.cst (.p (.int .i64 0)))⟩]) (.seq (.region [⟨some 3,none,.mov (.tmp 0)⟩,⟨some 4,none,.call 81 [.tmp 3]⟩,⟨some 5,none,.bin .sub (.cst (.p (.int .i64 64))) (.tmp 4)⟩,⟨some 2,none,.mov (.tmp 5)⟩]) (.ret))⟩
theorem low85 : lowFunc Try.prog gl0 85 = some lf85 := lowF (by kernel_rfl)
def lf81 : LFunc := ⟨25,[.slot 2], .seq (.region [⟨some 2,none,.mov (.cst (.p (.int .i64 0)))⟩]) (.seq (.seq (.region [⟨some 3,none,.mov (.tmp 0)⟩,⟨some 4,none,.bin .geq (.tmp 3) (.cst (.p (.int .u64 4294967296)))⟩]) (.cond (.tmp 4) (.seq (.region [⟨some 5,none,.mov (.tmp 0)⟩,⟨some 6,none,.bin .shr (.tmp 5) (.cst (.p (.int .u64 32)))⟩,⟨some 0,none,.mov (.tmp 6)⟩]) (.region [⟨some 2,none,.mov (.cst (.p (.int .i64 32)))⟩])) (.skip))) (.seq (.seq (.region [⟨some 7,none,.mov (.tmp 0)⟩,⟨some 8,none,.bin .geq (.tmp 7) (.cst (.p (.int .u64 65536)))⟩]) (.cond (.tmp 8) (.seq (.region [⟨some 9,none,.mov (.tmp 0)⟩,⟨some 10,none,.bin .shr (.tmp 9) (.cst (.p (.int .u64 16)))⟩,⟨some 0,none,.mov (.tmp 10)⟩]) (.region [⟨some 11,none,.mov (.tmp 2)⟩,⟨some 12,none,.bin .add (.tmp 11) (.cst (.p (.int .i64 16)))⟩,⟨some 2,none,.mov (.tmp 12)⟩])) (.skip))) (.seq (.seq (.region [⟨some 13,none,.mov (.tmp 0)⟩,⟨some 14,none,.bin .geq (.tmp 13) (.cst (.p (.int .u64 256)))⟩]) (.cond (.tmp 14) (.seq (.region [⟨some 15,none,.mov (.tmp 0)⟩,⟨some 16,none,.bin .shr (.tmp 15) (.cst (.p (.int .u64 8)))⟩,⟨some 0,none,.mov (.tmp 16)⟩]) (.region [⟨some 17,none,.mov (.tmp 2)⟩,⟨some 18,none,.bin .add (.tmp 17) (.cst (.p (.int .i64 8)))⟩,⟨some 2,none,.mov (.tmp 18)⟩])) (.skip))) (.seq (.region [⟨some 19,none,.mov (.tmp 2)⟩,⟨some 20,none,.mov (.tmp 0)⟩,⟨some 21,none,.conv (.toInt .u8) (.tmp 20)⟩,⟨some 22,none,.istr (.cst (.p (.str [0,1,2,2,3,3,3,3,4,4,4,4,4,4,4,4,5,5,5,5,5,5,5,5,5,5,5,5,5,5,5,5,6,6,6,6,6,6,6,6,6,6,6,6,6,6,6,6,6,6,6,6,6,6,6,6,6,6,6,6,6,6,6,6,7,7,7,7,7,7,7,7,7,7,7,7,7,7,7,7,7,7,7,7,7,7,7,7,7,7,7,7,7,7,7,7,7,7,7,7,7,7,7,7,7,7,7,7,7,7,7,7,7,7,7,7,7,7,7,7,7,7,7,7,7,7,7,7,8,8,8,8,8,8,8,8,8,8,8,8,8,8,8,8,8,8,8,8,8,8,8,8,8,8,8,8,8,8,8,8,8,8,8,8,8,8,8,8,8,8,8,8,8,8,8,8,8,8,8,8,8,8,8,8,8,8,8,8,8,8,8,8,8,8,8,8,8,8,8,8,8,8,8,8,8,8,8,8,8,8,8,8,8,8,8,8,8,8,8,8,8,8,8,8,8,8,8,8,8,8,8,8,8,8,8,8,8,8,8,8,8,8,8,8,8,8,8,8,8,8,8,8,8,8,8,8]))) (.tmp 21)⟩,⟨some 23,none,.conv (.toInt .i64) (.tmp 22)⟩,⟨some
 24,none,.bin .add (.tmp 19) (.tmp 23)⟩,⟨some 2,none,.mov (.tmp 24)⟩]) (.ret)))))⟩
theorem low81 : lowFunc Try.prog gl0 81 = some lf81 := lowF (by kernel_rfl)
def lf91 : LFunc := ⟨51,[.slot 4,.slot 5], .seq (.region [⟨some 4,none,.mov (.cst (.p (.int .u64 0)))⟩,⟨some 5,none,.mov (.cst (.p (.int .u64 0)))⟩]) (.seq (.region [⟨some 14,none,.mov (.tmp 0)⟩,⟨some 15,none,.bin .and (.tmp 14) (.cst (.p (.int .u64 4294967295)))⟩,⟨some 6,none,.mov (.tmp 15)⟩]) (.seq (.region [⟨some 16,none,.mov (.tmp 0)⟩,⟨some 17,none,.bin .shr (.tmp 16) (.cst (.p (.int .u64 32)))⟩,⟨some 7,none,.mov (.tmp 17)⟩]) (.seq (.region [⟨some 18,none,.mov (.tmp 1)⟩,⟨some 19,none,.bin .and (.tmp 18) (.cst (.p (.int .u64 4294967295)))⟩,⟨some 8,none,.mov (.tmp 19)⟩]) (.seq (.region [⟨some 20,none,.mov (.tmp 1)⟩,⟨some 21,none,.bin .shr (.tmp 20) (.cst (.p (.int .u64 32)))⟩,⟨some 9,none,.mov (.tmp 21)⟩]) (.seq (.region [⟨some 22,none,.mov (.tmp 6)⟩,⟨some 23,none,.mov (.tmp 8)⟩,⟨some 24,none,.bin .mul (.tmp 22) (.tmp 23)⟩,⟨some 10,none,.mov (.tmp 24)⟩]) (.seq (.region [⟨some 25,none,.mov (.tmp 7)⟩,⟨some 26,none,.mov (.tmp 8)⟩,⟨some 27,none,.bin .mul (.tmp 25) (.tmp 26)⟩,⟨some 28,none,.mov (.tmp 10)⟩,⟨some 29,none,.bin .shr (.tmp 28) (.cst (.p (.int .u64 32)))⟩,⟨some 30,none,.bin .add (.tmp 27) (.tmp 29)⟩,⟨some 11,none,.mov (.tmp 30)⟩]) (.seq (.region [⟨some 31,none,.mov (.tmp 11)⟩,⟨some 32,none,.bin .and (.tmp 31) (.cst (.p (.int .u64 4294967295)))⟩,⟨some 12,none,.mov (.tmp 32)⟩]) (.seq (.region [⟨some 33,none,.mov (.tmp 11)⟩,⟨some 34,none,.bin .shr (.tmp 33) (.cst (.p (.int .u64 32)))⟩,⟨some 13,none,.mov (.tmp 34)⟩]) (.seq (.region [⟨some 35,none,.mov (.tmp 12)⟩,⟨some 36,none,.mov (.tmp 6)⟩,⟨some 37,none,.mov (.tmp 9)⟩,⟨some 38,none,.bin .mul (.tmp 36) (.tmp 37)⟩,⟨some 39,none,.bin .add (.tmp 35) (.tmp 38)⟩,⟨some 12,none,.mov (.tmp 39)⟩]) (.seq (.region [⟨some 40,none,.mov (.tmp 7)⟩,⟨some 41,none,.mov (.tmp 9)⟩,⟨some 42,none,.bin .mul (.tmp 40) (.tmp 41)⟩,⟨some 43,none,.mov (.tmp 13)⟩,⟨some 44,none,.bin .add (.tmp 42) (.tmp 43)⟩,⟨some 45,none,.mov (.tmp 12)⟩,⟨some 46,none,.bin .shr (.tmp 45) (.cst (.p (.int .u64 32)))⟩,⟨some 47,none,.bin .add (.tmp 44) (.tmp
 46)⟩,⟨some 4,none,.mov (.tmp 47)⟩]) (.seq (.region [⟨some 48,none,.mov (.tmp 0)⟩,⟨some 49,none,.mov (.tmp 1)⟩,⟨some 50,none,.bin .mul (.tmp 48) (.tmp 49)⟩,⟨some 5,none,.mov (.tmp 50)⟩]) (.ret))))))))))))⟩
theorem low91 : lowFunc Try.prog gl0 91 = some lf91 := lowF (by kernel_rfl)
def lf53_B0 : LCode := .block 0 (
  .loop (
   .seq (
    .seq (
     .region [
       ⟨(some 7), none, .mov (.tmp 1)⟩,
       ⟨(some 8), none, .len (.tmp 7)⟩,
       ⟨(some 9), none, .bin .gtr (.tmp 8) (.cst (.p (.int .i64 0)))⟩]) (
     .cond (.tmp 9) (
      .skip) (
      .exit 0))) (
    .block 1 (
     .seq (
      .region [
        ⟨(some 11), none, .mov (.tmp 0)⟩,
        ⟨(some 12), none, .mov (.tmp 1)⟩,
        ⟨(some 13), none, .call 72 [(.tmp 11), (.tmp 12)]⟩,
        ⟨(some 10), none, .mov (.tmp 13)⟩,
        ⟨(some 14), none, .ext (.tmp 10) 0⟩,
        ⟨(some 15), none, .ext (.tmp 10) 1⟩,
        ⟨(some 5), none, .mov (.tmp 14)⟩,
        ⟨(some 6), none, .mov (.tmp 15)⟩]) (
      .region [
        ⟨(some 16), none, .mov (.tmp 1)⟩,
        ⟨(some 17), none, .mov (.tmp 6)⟩,
        ⟨(some 0), none, .mov (.tmp 16)⟩,
        ⟨(some 1), none, .mov (.tmp 17)⟩])))))
def lf53 : LFunc := ⟨20,[.slot 4], .seq (.region [⟨some 4,none,.mov (.cst (.tight []))⟩]) (.seq (lf53_B0) (.seq (.region [⟨some 18,none,.mov (.tmp 0)⟩,⟨some 19,none,.call 48 [.tmp 18]⟩,⟨some 4,none,.mov (.tmp 19)⟩]) (.ret)))⟩
theorem low53 : lowFunc Try.prog gl0 53 = some lf53 := lowF (by kernel_rfl)
def lf86_B0 : LCode := .block 0 (
  .loop (
   .seq (
    .region [
      ⟨(some 22), none, .bin .lss (.tmp 21) (.tmp 20)⟩]) (
    .seq (
     .cond (.tmp 22) (
      .skip) (
      .exit 0)) (
     .seq (
      .block 1 (
       .seq (
        .region [
          ⟨(some 23), none, .mov (.tmp 21)⟩,
          ⟨(some 24), none, .iadr 1 (.tmp 19) (.tmp 21)⟩,
          ⟨(some 25), none, .load 1 false (.tmp 24)⟩,
          ⟨(some 7), none, .mov (.tmp 23)⟩,
          ⟨(some 8), none, .mov (.tmp 25)⟩]) (
        .seq (
         .region [
           ⟨(some 26), none, .mov (.tmp 5)⟩,
           ⟨(some 27), none, .mov (.tmp 7)⟩,
           ⟨(some 28), none, .mov (.tmp 1)⟩,
           ⟨(some 29), none, .bin .quo (.tmp 28) (.cst (.p (.int .i64 64)))⟩,
           ⟨(some 30), none, .bin .add (.tmp 27) (.tmp 29)⟩,
           ⟨(some 31), none, .iadr 1 (.tmp 26) (.tmp 30)⟩,
           ⟨(some 32), none, .load 1 false (.tmp 31)⟩,
           ⟨(some 33), none, .mov (.tmp 8)⟩,
           ⟨(some 34), none, .mov (.tmp 6)⟩,
           ⟨(some 35), none, .bin .shl (.tmp 33) (.tmp 34)⟩,
           ⟨(some 36), none, .bin .or (.tmp 32) (.tmp 35)⟩,
           ⟨(some 37), none, .iadr 1 (.tmp 26) (.tmp 30)⟩,
           ⟨none, none, .store 1 (.tmp 37) (.tmp 36)⟩]) (
         .seq (
          .region [
            ⟨(some 38), none, .mov (.tmp 6)⟩,
            ⟨(some 39), none, .bin .gtr (.tmp 38) (.cst (.p (.int .u64 0)))⟩]) (
          .cond (.tmp 39) (
           .region [
             ⟨(some 40), none, .mov (.tmp 5)⟩,
             ⟨(some 41), none, .mov (.tmp 7)⟩,
             ⟨(some 42), none, .mov (.tmp 1)⟩,
             ⟨(some 43), none, .bin .quo (.tmp 42) (.cst (.p (.int .i64 64)))⟩,
             ⟨(some 44), none, .bin .add (.tmp 41) (.tmp 43)⟩,
             ⟨(some 45), none, .bin .add (.tmp 44) (.cst (.p (.int .i64 1)))⟩,
             ⟨(some 46), none, .iadr 1 (.tmp 40) (.tmp 45)⟩,
             ⟨(some 47), none, .load 1 false (.tmp 46)⟩,
             ⟨(some 48), none, .mov (.tmp 8)⟩,
             ⟨(some 49), none, .mov (.tmp 6)⟩,
             ⟨(some 50), none, .bin .sub (.cst (.p (.int .u64 64))) (.tmp 49)⟩,
             ⟨(some 51), none, .bin .shr (.tmp 48) (.tmp 50)⟩,
             ⟨(some 52), none, .bin .or (.tmp 47) (.tmp 51)⟩,
             ⟨(some 53), none, .iadr 1 (.tmp 40) (.tmp 45)⟩,
             ⟨none, none, .store 1 (.tmp 53) (.tmp 52)⟩]) (
           .skip)))))) (
      .region [
        ⟨(some 54), none, .bin .add (.tmp 21) (.cst (.p (.int .i64 1)))⟩,
        ⟨(some 21), none, .mov (.tmp 54)⟩])))))
def lf86 : LFunc := ⟨57,[.slot 4], .seq (.region [⟨some 4,none,.mov (.cst (.tight []))⟩]) (.seq (.region [⟨some 9,none,.mov (.tmp 0)⟩,⟨some 10,none,.len (.tmp 9)⟩,⟨some 11,none,.mov (.tmp 1)⟩,⟨some 12,none,.bin .quo (.tmp 11) (.cst (.p (.int .i64 64)))⟩,⟨some 13,none,.bin .add (.tmp 10) (.tmp 12)⟩,⟨some 14,none,.bin .add (.tmp 13) (.cst (.p (.int .i64 1)))⟩,⟨some 15,none,.mksl 1 8 61 (.p (.int .u64 0)) (.tmp 14) (.tmp 14)⟩,⟨some 5,none,.mov (.tmp 15)⟩]) (.seq (.region [⟨some 16,none,.mov (.tmp 1)⟩,⟨some 17,none,.bin .rem (.tmp 16) (.cst (.p (.int .i64 64)))⟩,⟨some 18,none,.conv (.toInt .u64) (.tmp 17)⟩,⟨some 6,none,.mov (.tmp 18)⟩]) (.seq (.seq (.region [⟨some 19,none,.mov (.tmp 0)⟩,⟨some 20,none,.len (.tmp 19)⟩,⟨some 21,none,.mov (.cst (.p (.int .i64 0)))⟩]) (lf86_B0)) (.seq (.region [⟨some 55,none,.mov (.tmp 5)⟩,⟨some 56,none,.call 74 [.tmp 55]⟩,⟨some 4,none,.mov (.tmp 56)⟩]) (.ret)))))⟩
theorem low86 : lowFunc Try.prog gl0 86 = some lf86 := lowF (by kernel_rfl)
def lf71_B0 : LCode := .block 0 (
  .loop (
   .seq (
    .region [
      ⟨(some 16), none, .bin .lss (.tmp 15) (.tmp 14)⟩]) (
    .seq (
     .cond (.tmp 16) (
      .skip) (
      .exit 0)) (
     .seq (
      .block 1 (
       .seq (
        .region [
          ⟨(some 17), none, .mov (.tmp 15)⟩,
          ⟨(some 18), none, .iadr 1 (.tmp 13) (.tmp 15)⟩,
          ⟨(some 19), none, .load 1 false (.tmp 18)⟩,
          ⟨(some 7), none, .mov (.tmp 17)⟩,
          ⟨(some 8), none, .mov (.tmp 19)⟩]) (
        .seq (
         .region [
           ⟨(some 9), none, .mov (.cst (.p (.int .u64 0)))⟩]) (
         .seq (
          .seq (
           .region [
             ⟨(some 20), none, .mov (.tmp 7)⟩,
             ⟨(some 21), none, .mov (.tmp 1)⟩,
             ⟨(some 22), none, .len (.tmp 21)⟩,
             ⟨(some 23), none, .bin .lss (.tmp 20) (.tmp 22)⟩]) (
           .cond (.tmp 23) (
            .region [
              ⟨(some 24), none, .mov (.tmp 1)⟩,
              ⟨(some 25), none, .mov (.tmp 7)⟩,
              ⟨(some 26), none, .iadr 1 (.tmp 24) (.tmp 25)⟩,
              ⟨(some 27), none, .load 1 false (.tmp 26)⟩,
              ⟨(some 9), none, .mov (.tmp 27)⟩]) (
            .skip))) (
          .region [
            ⟨(some 29), none, .mov (.tmp 5)⟩,
            ⟨(some 30), none, .mov (.tmp 7)⟩,
            ⟨(some 31), none, .mov (.tmp 8)⟩,
            ⟨(some 32), none, .mov (.tmp 9)⟩,
            ⟨(some 33), none, .mov (.tmp 6)⟩,
            ⟨(some 34), none, .calle 82 [(.tmp 31), (.tmp 32), (.tmp 33)]⟩,
            ⟨(some 28), none, .mov (.tmp 34)⟩,
            ⟨(some 35), none, .ext (.tmp 28) 0⟩,
            ⟨(some 36), none, .ext (.tmp 28) 1⟩,
            ⟨(some 37), none, .iadr 1 (.tmp 29) (.tmp 30)⟩,
            ⟨none, none, .store 1 (.tmp 37) (.tmp 35)⟩,
            ⟨(some 6), none, .mov (.tmp 36)⟩]))))) (
      .region [
        ⟨(some 38), none, .bin .add (.tmp 15) (.cst (.p (.int .i64 1)))⟩,
        ⟨(some 15), none, .mov (.tmp 38)⟩])))))
def lf71 : LFunc := ⟨41,[.slot 4], .seq (.region [⟨some 4,none,.mov (.cst (.tight []))⟩]) (.seq (.region [⟨some 10,none,.mov (.tmp 0)⟩,⟨some 11,none,.len (.tmp 10)⟩,⟨some 12,none,.mksl 1 8 61 (.p (.int .u64 0)) (.tmp 11) (.tmp 11)⟩,⟨some 5,none,.mov (.tmp 12)⟩]) (.seq (.region [⟨some 6,none,.mov (.cst (.p (.int .u64 0)))⟩]) (.seq (.seq (.region [⟨some 13,none,.mov (.tmp 0)⟩,⟨some 14,none,.len (.tmp 13)⟩,⟨some 15,none,.mov (.cst (.p (.int .i64 0)))⟩]) (lf71_B0)) (.seq (.region [⟨some 39,none,.mov (.tmp 5)⟩,⟨some 40,none,.call 74 [.tmp 39]⟩,⟨some 4,none,.mov (.tmp 40)⟩]) (.ret)))))⟩
theorem low71 : lowFunc Try.prog gl0 71 = some lf71 := lowF (by kernel_rfl)
def lf78 : LFunc := ⟨8,[.slot 2], .seq (.region [⟨some 2,none,.mov (.cst (.tight []))⟩]) (.seq (.seq (.region [⟨some 3,none,.mov (.tmp 0)⟩,⟨some 4,none,.bin .leq (.tmp 3) (.cst (.p (.int .i64 0)))⟩]) (.cond (.tmp 4) (.seq (.region [⟨some 2,none,.mov (.cst (.tight []))⟩]) (.ret)) (.skip))) (.seq (.region [⟨some 5,none,.mov (.tmp 0)⟩,⟨some 6,none,.conv (.toInt .u64) (.tmp 5)⟩,⟨some 7,none,.buildSl 1 61 (.p (.int .u64 0)) 1 [(0,(.tmp 6))]⟩,⟨some 2,none,.mov (.tmp 7)⟩]) (.ret)))⟩
theorem low78 : lowFunc Try.prog gl0 78 = some lf78 := lowF (by kernel_rfl)
def lf51_B0 : LCode := .block 0 (
  .loop (
   .seq (
    .seq (
     .region [
       ⟨(some 19), none, .mov (.tmp 5)⟩,
       ⟨(some 20), none, .bin .geq (.tmp 19) (.cst (.p (.int .i64 0)))⟩]) (
     .cond (.tmp 20) (
      .skip) (
      .exit 0))) (
    .seq (
     .block 1 (
      .seq (
       .regionD [
         ⟨(some 23), none, .mov (.tmp 0)⟩,
         ⟨(some 24), none, .mov (.tmp 5)⟩,
         ⟨(some 25), none, .iadr 1 (.tmp 23) (.tmp 24)⟩,
         ⟨(some 26), none, .load 1 false (.tmp 25)⟩,
         ⟨(some 27), none, .mov (.tmp 1)⟩,
         ⟨(some 28), none, .mov (.tmp 5)⟩,
         ⟨(some 29), none, .iadr 1 (.tmp 27) (.tmp 28)⟩,
         ⟨(some 30), none, .load 1 false (.tmp 29)⟩,
         ⟨(some 31), none, .bin .neq (.tmp 26) (.tmp 30)⟩]) (
       .cond (.tmp 31) (
        .seq (
         .regionD [
           ⟨(some 32), none, .mov (.tmp 0)⟩,
           ⟨(some 33), none, .mov (.tmp 5)⟩,
           ⟨(some 34), none, .iadr 1 (.tmp 32) (.tmp 33)⟩,
           ⟨(some 35), none, .load 1 false (.tmp 34)⟩,
           ⟨(some 36), none, .mov (.tmp 1)⟩,
           ⟨(some 37), none, .mov (.tmp 5)⟩,
           ⟨(some 38), none, .iadr 1 (.tmp 36) (.tmp 37)⟩,
           ⟨(some 39), none, .load 1 false (.tmp 38)⟩,
           ⟨(some 40), none, .call 77 [(.tmp 35), (.tmp 39)]⟩,
           ⟨(some 4), none, .mov (.tmp 40)⟩]) (
         .ret)) (
        .skip)))) (
     .region [
       ⟨(some 21), none, .mov (.tmp 5)⟩,
       ⟨(some 22), none, .bin .sub (.tmp 21) (.cst (.p (.int .i64 1)))⟩,
       ⟨(some 5), none, .mov (.tmp 22)⟩]))))
def lf51 : LFunc := ⟨41,[.slot 4], .seq (.region [⟨some 4,none,.mov (.cst (.p (.int .i64 0)))⟩]) (.seq (.seq (.region [⟨some 6,none,.mov (.tmp 0)⟩,⟨some 7,none,.len (.tmp 6)⟩,⟨some 8,none,.mov (.tmp 1)⟩,⟨some 9,none,.len (.tmp 8)⟩,⟨some 10,none,.bin .neq (.tmp 7) (.tmp 9)⟩]) (.cond (.tmp 10) (.seq (.region [⟨some 11,none,.mov (.tmp 0)⟩,⟨some 12,none,.len (.tmp 11)⟩,⟨some 13,none,.mov (.tmp 1)⟩,⟨some 14,none,.len (.tmp 13)⟩,⟨some 15,none,.call 76 [.tmp 12,.tmp 14]⟩,⟨some 4,none,.mov (.tmp 15)⟩]) (.ret)) (.skip))) (.seq (.seq (.region [⟨some 16,none,.mov (.tmp 0)⟩,⟨some 17,none,.len (.tmp 16)⟩,⟨some 18,none,.bin .sub (.tmp 17) (.cst (.p (.int .i64 1)))⟩,⟨some 5,none,.mov (.tmp 18)⟩]) (lf51_B0)) (.seq (.region [⟨some 4,none,.mov (.cst (.p (.int .i64 0)))⟩]) (.ret))))⟩
theorem low51 : lowFunc Try.prog gl0 51 = some lf51 := lowF (by kernel_rfl)
def lf70_B0 : LCode := .block 0 (
  .loop (
   .seq (
    .region [
      ⟨(some 24), none, .bin .lss (.tmp 23) (.tmp 22)⟩]) (
    .seq (
     .cond (.tmp 24) (
      .skip) (
      .exit 0)) (
     .seq (
      .block 1 (
       .seq (
        .region [
          ⟨(some 25), none, .mov (.tmp 23)⟩,
          ⟨(some 26), none, .iadr 1 (.tmp 21) (.tmp 23)⟩,
          ⟨(some 27), none, .load 1 false (.tmp 26)⟩,
          ⟨(some 7), none, .mov (.tmp 25)⟩,
          ⟨(some 8), none, .mov (.tmp 27)⟩]) (
        .seq (
         .region [
           ⟨(some 9), none, .mov (.cst (.p (.int .u64 0)))⟩]) (
         .seq (
          .seq (
           .region [
             ⟨(some 28), none, .mov (.tmp 7)⟩,
             ⟨(some 29), none, .mov (.tmp 1)⟩,
             ⟨(some 30), none, .len (.tmp 29)⟩,
             ⟨(some 31), none, .bin .lss (.tmp 28) (.tmp 30)⟩]) (
           .cond (.tmp 31) (
            .region [
              ⟨(some 32), none, .mov (.tmp 1)⟩,
              ⟨(some 33), none, .mov (.tmp 7)⟩,
              ⟨(some 34), none, .iadr 1 (.tmp 32) (.tmp 33)⟩,
              ⟨(some 35), none, .load 1 false (.tmp 34)⟩,
              ⟨(some 9), none, .mov (.tmp 35)⟩]) (
            .skip))) (
          .region [
            ⟨(some 37), none, .mov (.tmp 5)⟩,
            ⟨(some 38), none, .mov (.tmp 7)⟩,
            ⟨(some 39), none, .mov (.tmp 8)⟩,
            ⟨(some 40), none, .mov (.tmp 9)⟩,
            ⟨(some 41), none, .mov (.tmp 6)⟩,
            ⟨(some 42), none, .calle 83 [(.tmp 39), (.tmp 40), (.tmp 41)]⟩,
            ⟨(some 36), none, .mov (.tmp 42)⟩,
            ⟨(some 43), none, .ext (.tmp 36) 0⟩,
            ⟨(some 44), none, .ext (.tmp 36) 1⟩,
            ⟨(some 45), none, .iadr 1 (.tmp 37) (.tmp 38)⟩,
            ⟨none, none, .store 1 (.tmp 45) (.tmp 43)⟩,
            ⟨(some 6), none, .mov (.tmp 44)⟩]))))) (
      .region [
        ⟨(some 46), none, .bin .add (.tmp 23) (.cst (.p (.int .i64 1)))⟩,
        ⟨(some 23), none, .mov (.tmp 46)⟩])))))
def lf70 : LFunc := ⟨54,[.slot 4], .seq (.region [⟨some 4,none,.mov (.cst (.tight []))⟩]) (.seq (.seq (.region [⟨some 10,none,.mov (.tmp 0)⟩,⟨some 11,none,.len (.tmp 10)⟩,⟨some 12,none,.mov (.tmp 1)⟩,⟨some 13,none,.len (.tmp 12)⟩,⟨some 14,none,.bin .lss (.tmp 11) (.tmp 13)⟩]) (.cond (.tmp 14) (.region [⟨some 15,none,.mov (.tmp 1)⟩,⟨some 16,none,.mov (.tmp 0)⟩,⟨some 0,none,.mov (.tmp 15)⟩,⟨some 1,none,.mov (.tmp 16)⟩]) (.skip))) (.seq (.region [⟨some 17,none,.mov (.tmp 0)⟩,⟨some 18,none,.len (.tmp 17)⟩,⟨some 19,none,.bin .add (.tmp 18) (.cst (.p (.int .i64 1)))⟩,⟨some 20,none,.mksl 1 8 61 (.p (.int .u64 0)) (.tmp 19) (.tmp 19)⟩,⟨some 5,none,.mov (.tmp 20)⟩]) (.seq (.region [⟨some 6,none,.mov (.cst (.p (.int .u64 0)))⟩]) (.seq (.seq (.region [⟨some 21,none,.mov (.tmp 0)⟩,⟨some 22,none,.len (.tmp 21)⟩,⟨some 23,none,.mov (.cst (.p (.int .i64 0)))⟩]) (lf70_B0)) (.seq (.region [⟨some 47,none,.mov (.tmp 5)⟩,⟨some 48,none,.mov (.tmp 0)⟩,⟨some 49,none,.len (.tmp 48)⟩,⟨some 50,none,.mov (.tmp 6)⟩,⟨some 51,none,.iadr 1 (.tmp 47) (.tmp 49)⟩,⟨none,none,.store 1 (.tmp 51) (.tmp 50)⟩]) (.seq (.region [⟨some 52,none,.mov (.tmp 5)⟩,⟨some 53,none,.call 74 [.tmp 52]⟩,⟨some 4,none,.mov (.tmp 53)⟩]) (.ret)))))))⟩
theorem low70 : lowFunc Try.prog gl0 70 = some lf70 := lowF (by kernel_rfl)
def lf72_B0 : LCode := .block 3 (
  .loop (
   .seq (
    .seq (
     .region [
       ⟨(some 113), none, .mov (.tmp 13)⟩]) (
     .cond (.tmp 113) (
      .skip) (
      .exit 3))) (
    .seq (
     .block 4 (
      .seq (
       .region [
         ⟨(some 116), none, .mov (.tmp 10)⟩,
         ⟨(some 117), none, .mov (.tmp 11)⟩,
         ⟨(some 118), none, .mov (.tmp 8)⟩,
         ⟨(some 119), none, .bin .add (.tmp 117) (.tmp 118)⟩,
         ⟨(some 120), none, .iadr 1 (.tmp 116) (.tmp 119)⟩,
         ⟨(some 121), none, .load 1 false (.tmp 120)⟩,
         ⟨(some 14), none, .mov (.tmp 121)⟩]) (
       .seq (
        .region [
          ⟨(some 122), none, .mov (.tmp 10)⟩,
          ⟨(some 123), none, .mov (.tmp 11)⟩,
          ⟨(some 124), none, .mov (.tmp 11)⟩,
          ⟨(some 125), none, .mov (.tmp 8)⟩,
          ⟨(some 126), none, .bin .add (.tmp 124) (.tmp 125)⟩,
          ⟨(some 127), none, .bin .add (.tmp 126) (.cst (.p (.int .i64 1)))⟩,
          ⟨(some 128), none, .slSl 1 (.tmp 122) (some (.tmp 123)) (some (.tmp 127)) none⟩,
          ⟨(some 129), none, .mov (.tmp 1)⟩,
          ⟨(some 130), none, .call 89 [(.tmp 128), (.tmp 129)]⟩]) (
        .region [
          ⟨(some 131), none, .mov (.tmp 10)⟩,
          ⟨(some 132), none, .mov (.tmp 11)⟩,
          ⟨(some 133), none, .mov (.tmp 8)⟩,
          ⟨(some 134), none, .bin .add (.tmp 132) (.tmp 133)⟩,
          ⟨(some 135), none, .iadr 1 (.tmp 131) (.tmp 134)⟩,
          ⟨(some 136), none, .load 1 false (.tmp 135)⟩,
          ⟨(some 137), none, .mov (.tmp 14)⟩,
          ⟨(some 138), none, .bin .geq (.tmp 136) (.tmp 137)⟩,
          ⟨(some 13), none, .mov (.tmp 138)⟩])))) (
     .region [
       ⟨(some 114), none, .mov (.tmp 12)⟩,
       ⟨(some 115), none, .bin .sub (.tmp 114) (.cst (.p (.int .u64 1)))⟩,
       ⟨(some 12), none, .mov (.tmp 115)⟩]))))
def lf72_B1 : LCode := .block 1 (
  .loop (
   .seq (
    .seq (
     .region [
       ⟨(some 68), none, .mov (.tmp 11)⟩,
       ⟨(some 69), none, .bin .geq (.tmp 68) (.cst (.p (.int .i64 0)))⟩]) (
     .cond (.tmp 69) (
      .skip) (
      .exit 1))) (
    .seq (
     .block 2 (
      .seq (
       .regionD [
         ⟨(some 72), none, .mov (.tmp 10)⟩,
         ⟨(some 73), none, .mov (.tmp 11)⟩,
         ⟨(some 74), none, .mov (.tmp 8)⟩,
         ⟨(some 75), none, .bin .add (.tmp 73) (.tmp 74)⟩,
         ⟨(some 76), none, .iadr 1 (.tmp 72) (.tmp 75)⟩,
         ⟨(some 77), none, .load 1 false (.tmp 76)⟩,
         ⟨(some 78), none, .mov (.tmp 10)⟩,
         ⟨(some 79), none, .mov (.tmp 11)⟩,
         ⟨(some 80), none, .mov (.tmp 8)⟩,
         ⟨(some 81), none, .bin .add (.tmp 79) (.tmp 80)⟩,
         ⟨(some 82), none, .bin .sub (.tmp 81) (.cst (.p (.int .i64 1)))⟩,
         ⟨(some 83), none, .iadr 1 (.tmp 78) (.tmp 82)⟩,
         ⟨(some 84), none, .load 1 false (.tmp 83)⟩,
         ⟨(some 85), none, .mov (.tmp 10)⟩,
         ⟨(some 86), none, .mov (.tmp 11)⟩,
         ⟨(some 87), none, .mov (.tmp 8)⟩,
         ⟨(some 88), none, .bin .add (.tmp 86) (.tmp 87)⟩,
         ⟨(some 89), none, .bin .sub (.tmp 88) (.cst (.p (.int .i64 2)))⟩,
         ⟨(some 90), none, .iadr 1 (.tmp 85) (.tmp 89)⟩,
         ⟨(some 91), none, .load 1 false (.tmp 90)⟩,
         ⟨(some 92), none, .mov (.tmp 1)⟩,
         ⟨(some 93), none, .mov (.tmp 8)⟩,
         ⟨(some 94), none, .bin .sub (.tmp 93) (.cst (.p (.int .i64 1)))⟩,
         ⟨(some 95), none, .iadr 1 (.tmp 92) (.tmp 94)⟩,
         ⟨(some 96), none, .load 1 false (.tmp 95)⟩,
         ⟨(some 97), none, .mov (.tmp 1)⟩,
         ⟨(some 98), none, .mov (.tmp 8)⟩,
         ⟨(some 99), none, .bin .sub (.tmp 98) (.cst (.p (.int .i64 2)))⟩,
         ⟨(some 100), none, .iadr 1 (.tmp 97) (.tmp 99)⟩,
         ⟨(some 101), none, .load 1 false (.tmp 100)⟩,
         ⟨(some 102), none, .call 87 [(.tmp 77), (.tmp 84), (.tmp 91), (.tmp 96), (.tmp 101)]⟩,
         ⟨(some 12), none, .mov (.tmp 102)⟩]) (
       .seq (
        .seq (
         .region [
           ⟨(some 103), none, .mov (.tmp 10)⟩,
           ⟨(some 104), none, .mov (.tmp 11)⟩,
           ⟨(some 105), none, .mov (.tmp 11)⟩,
           ⟨(some 106), none, .mov (.tmp 8)⟩,
           ⟨(some 107), none, .bin .add (.tmp 105) (.tmp 106)⟩,
           ⟨(some 108), none, .bin .add (.tmp 107) (.cst (.p (.int .i64 1)))⟩,
           ⟨(some 109), none, .slSl 1 (.tmp 103) (some (.tmp 104)) (some (.tmp 108)) none⟩,
           ⟨(some 110), none, .mov (.tmp 1)⟩,
           ⟨(some 111), none, .mov (.tmp 12)⟩,
           ⟨(some 112), none, .call 88 [(.tmp 109), (.tmp 110), (.tmp 111)]⟩,
           ⟨(some 13), none, .mov (.tmp 112)⟩]) (
         lf72_B0)) (
        .region [
          ⟨(some 139), none, .mov (.tmp 4)⟩,
          ⟨(some 140), none, .mov (.tmp 11)⟩,
          ⟨(some 141), none, .mov (.tmp 12)⟩,
          ⟨(some 142), none, .iadr 1 (.tmp 139) (.tmp 140)⟩,
          ⟨none, none, .store 1 (.tmp 142) (.tmp 141)⟩])))) (
     .region [
       ⟨(some 70), none, .mov (.tmp 11)⟩,
       ⟨(some 71), none, .bin .sub (.tmp 70) (.cst (.p (.int .i64 1)))⟩,
       ⟨(some 11), none, .mov (.tmp 71)⟩]))))
def lf72 : LFunc := ⟨149,[.slot 4,.slot 5], .seq (.region [⟨some 4,none,.mov (.cst (.tight []))⟩,⟨some 5,none,.mov (.cst (.tight []))⟩]) (.seq (.block 0 (.seq (.region [⟨some 16,none,.mov (.tmp 0)⟩,⟨some 17,none,.mov (.tmp 1)⟩,⟨some 18,none,.call 51 [.tmp 16,.tmp 17]⟩,⟨some 19,none,.bin .lss (.tmp 18) (.cst (.p (.int .i64 0)))⟩,⟨some 15,none,.mov (.tmp 19)⟩]) (.cond (.tmp 15) (.seq (.region [⟨some 20,none,.mov (.tmp 0)⟩,⟨some 21,none,.call 74 [.tmp 20]⟩,⟨some 22,none,.call 48 [.tmp 21]⟩,⟨some 4,none,.mov (.cst (.tight []))⟩,⟨some 5,none,.mov (.tmp 22)⟩]) (.ret)) (.seq (.region [⟨some 24,none,.mov (.tmp 1)⟩,⟨some 25,none,.len (.tmp 24)⟩,⟨some 26,none,.bin .eql (.tmp 25) (.cst (.p (.int .i64 1)))⟩,⟨some 23,none,.mov (.tmp 26)⟩]) (.cond (.tmp 23) (.seq (.region [⟨some 28,none,.mov (.tmp 0)⟩,⟨some 29,none,.mov (.tmp 1)⟩,⟨some 30,none,.iadr 1 (.tmp 29) (.cst (.p (.int .i64 0)))⟩,⟨some 31,none,.load 1 false (.tmp 30)⟩,⟨some 32,none,.call 84 [.tmp 28,.tmp 31]⟩,⟨some 27,none,.mov (.tmp 32)⟩,⟨some 33,none,.ext (.tmp 27) 0⟩,⟨some 34,none,.ext (.tmp 27) 1⟩,⟨some 6,none,.mov (.tmp 33)⟩,⟨some 7,none,.mov (.tmp 34)⟩]) (.seq (.region [⟨some 35,none,.mov (.tmp 6)⟩,⟨some 36,none,.mov (.tmp 7)⟩,⟨some 37,none,.buildSl 1 61 (.p (.int .u64 0)) 1 [(0,(.tmp 36))]⟩,⟨some 38,none,.call 74 [.tmp 37]⟩,⟨some 4,none,.mov (.tmp 35)⟩,⟨some 5,none,.mov (.tmp 38)⟩]) (.ret))) (.skip)))))) (.seq (.region [⟨some 39,none,.mov (.tmp 1)⟩,⟨some 40,none,.len (.tmp 39)⟩,⟨some 8,none,.mov (.tmp 40)⟩]) (.seq (.region [⟨some 41,none,.mov (.tmp 1)⟩,⟨some 42,none,.mov (.tmp 8)⟩,⟨some 43,none,.bin .sub (.tmp 42) (.cst (.p (.int .i64 1)))⟩,⟨some 44,none,.iadr 1 (.tmp 41) (.tmp 43)⟩,⟨some 45,none,.load 1 false (.tmp 44)⟩,⟨some 46,none,.call 85 [.tmp 45]⟩,⟨some 9,none,.mov (.tmp 46)⟩]) (.seq (.region [⟨some 47,none,.mov (.tmp 1)⟩,⟨some 48,none,.mov (.tmp 9)⟩,⟨some 49,none,.call 86 [.tmp 47,.tmp 48]⟩,⟨some 1,none,.mov (.tmp 49)⟩]) (.seq (.region [⟨some 50,none,.mov (.tmp 0)⟩,⟨some 51,none,.len (.tmp 50)⟩,⟨some
 52,none,.bin .add (.tmp 51) (.cst (.p (.int .i64 1)))⟩,⟨some 53,none,.mksl 1 8 61 (.p (.int .u64 0)) (.tmp 52) (.tmp 52)⟩,⟨some 10,none,.mov (.tmp 53)⟩]) (.seq (.region [⟨some 54,none,.mov (.tmp 10)⟩,⟨some 55,none,.mov (.tmp 0)⟩,⟨some 56,none,.mov (.tmp 9)⟩,⟨some 57,none,.call 86 [.tmp 55,.tmp 56]⟩,⟨some 58,none,.cpy 1 (.tmp 54) (.tmp 57)⟩]) (.seq (.region [⟨some 59,none,.mov (.tmp 0)⟩,⟨some 60,none,.len (.tmp 59)⟩,⟨some 61,none,.mov (.tmp 8)⟩,⟨some 62,none,.bin .sub (.tmp 60) (.tmp 61)⟩,⟨some 63,none,.bin .add (.tmp 62) (.cst (.p (.int .i64 1)))⟩,⟨some 64,none,.mksl 1 8 61 (.p (.int .u64 0)) (.tmp 63) (.tmp 63)⟩,⟨some 4,none,.mov (.tmp 64)⟩]) (.seq (.seq (.region [⟨some 65,none,.mov (.tmp 4)⟩,⟨some 66,none,.len (.tmp 65)⟩,⟨some 67,none,.bin .sub (.tmp 66) (.cst (.p (.int .i64 1)))⟩,⟨some 11,none,.mov (.tmp 67)⟩]) (lf72_B1)) (.seq (.region [⟨some 143,none,.mov (.tmp 4)⟩,⟨some 144,none,.call 74 [.tmp 143]⟩,⟨some 145,none,.mov (.tmp 10)⟩,⟨some 146,none,.call 74 [.tmp 145]⟩,⟨some 147,none,.mov (.tmp 9)⟩,⟨some 148,none,.call 90 [.tmp 146,.tmp 147]⟩,⟨some 4,none,.mov (.tmp 144)⟩,⟨some 5,none,.mov (.tmp 148)⟩]) (.ret))))))))))⟩
theorem low72 : lowFunc Try.prog gl0 72 = some lf72 := lowF (by kernel_rfl)
def lf90_B0 : LCode := .block 0 (
  .loop (
   .seq (
    .region [
      ⟨(some 27), none, .bin .lss (.tmp 26) (.tmp 25)⟩]) (
    .seq (
     .cond (.tmp 27) (
      .skip) (
      .exit 0)) (
     .seq (
      .block 1 (
       .seq (
        .region [
          ⟨(some 28), none, .mov (.tmp 26)⟩,
          ⟨(some 29), none, .iadr 1 (.tmp 24) (.tmp 26)⟩,
          ⟨(some 30), none, .load 1 false (.tmp 29)⟩,
          ⟨(some 7), none, .mov (.tmp 28)⟩,
          ⟨(some 8), none, .mov (.tmp 30)⟩]) (
        .seq (
         .region [
           ⟨(some 31), none, .mov (.tmp 6)⟩,
           ⟨(some 32), none, .mov (.tmp 7)⟩,
           ⟨(some 33), none, .mov (.tmp 8)⟩,
           ⟨(some 34), none, .mov (.tmp 5)⟩,
           ⟨(some 35), none, .bin .shr (.tmp 33) (.tmp 34)⟩,
           ⟨(some 36), none, .iadr 1 (.tmp 31) (.tmp 32)⟩,
           ⟨none, none, .store 1 (.tmp 36) (.tmp 35)⟩]) (
         .seq (
          .region [
            ⟨(some 37), none, .mov (.tmp 5)⟩,
            ⟨(some 38), none, .bin .gtr (.tmp 37) (.cst (.p (.int .u64 0)))⟩,
            ⟨(some 39), none, .mov (.tmp 38)⟩,
            ⟨(some 40), (some (39, true)), .mov (.tmp 7)⟩,
            ⟨(some 41), (some (39, true)), .bin .add (.tmp 40) (.cst (.p (.int .i64 1)))⟩,
            ⟨(some 42), (some (39, true)), .mov (.tmp 0)⟩,
            ⟨(some 43), (some (39, true)), .len (.tmp 42)⟩,
            ⟨(some 44), (some (39, true)), .bin .lss (.tmp 41) (.tmp 43)⟩,
            ⟨(some 45), none, .pick (.tmp 39) (.tmp 44) (.cst (.p (.bool false)))⟩]) (
          .cond (.tmp 45) (
           .regionW [
             (⟨(some 46), none, .mov (.tmp 6)⟩, .f),
             (⟨(some 47), none, .mov (.tmp 7)⟩, .f),
             (⟨(some 48), none, .iadr 1 (.tmp 46) (.tmp 47)⟩, .f),
             (⟨(some 49), none, .load 1 false (.tmp 48)⟩, .f),
             (⟨(some 50), none, .mov (.tmp 0)⟩, .f),
             (⟨(some 51), none, .mov (.tmp 7)⟩, .f),
             (⟨(some 52), none, .bin .add (.tmp 51) (.cst (.p (.int .i64 1)))⟩, .f),
             (⟨(some 53), none, .iadr 1 (.tmp 50) (.tmp 52)⟩, .f),
             (⟨(some 54), none, .load 1 false (.tmp 53)⟩, .f),
             (⟨(some 55), none, .mov (.tmp 5)⟩, .f),
             (⟨(some 56), none, .bin .sub (.cst (.p (.int .u64 64))) (.tmp 55)⟩, .f),
             (⟨(some 57), none, .bin .shl (.tmp 54) (.tmp 56)⟩, .f),
             (⟨(some 58), none, .bin .or (.tmp 49) (.tmp 57)⟩, .f),
             (⟨(some 59), none, .iadr 1 (.tmp 46) (.tmp 47)⟩, .f),
             (⟨none, none, .store 1 (.tmp 59) (.tmp 58)⟩, .f)]) (
           .skip)))))) (
      .region [
        ⟨(some 60), none, .bin .add (.tmp 26) (.cst (.p (.int .i64 1)))⟩,
        ⟨(some 26), none, .mov (.tmp 60)⟩])))))
def lf90 : LFunc := ⟨63,[.slot 4], .seq (.region [⟨some 4,none,.mov (.cst (.tight []))⟩]) (.seq (.seq (.region [⟨some 9,none,.mov (.tmp 1)⟩,⟨some 10,none,.bin .quo (.tmp 9) (.cst (.p (.int .i64 64)))⟩,⟨some 11,none,.mov (.tmp 0)⟩,⟨some 12,none,.len (.tmp 11)⟩,⟨some 13,none,.bin .geq (.tmp 10) (.tmp 12)⟩]) (.cond (.tmp 13) (.seq (.region [⟨some 4,none,.mov (.cst (.tight []))⟩]) (.ret)) (.skip))) (.seq (.region [⟨some 14,none,.mov (.tmp 0)⟩,⟨some 15,none,.mov (.tmp 1)⟩,⟨some 16,none,.bin .quo (.tmp 15) (.cst (.p (.int .i64 64)))⟩,⟨some 17,none,.slSl 1 (.tmp 14) (some (.tmp 16)) none none⟩,⟨some 0,none,.mov (.tmp 17)⟩]) (.seq (.region [⟨some 18,none,.mov (.tmp 1)⟩,⟨some 19,none,.bin .rem (.tmp 18) (.cst (.p (.int .i64 64)))⟩,⟨some 20,none,.conv (.toInt .u64) (.tmp 19)⟩,⟨some 5,none,.mov (.tmp 20)⟩]) (.seq (.region [⟨some 21,none,.mov (.tmp 0)⟩,⟨some 22,none,.len (.tmp 21)⟩,⟨some 23,none,.mksl 1 8 61 (.p (.int .u64 0)) (.tmp 22) (.tmp 22)⟩,⟨some 6,none,.mov (.tmp 23)⟩]) (.seq (.seq (.region [⟨some 24,none,.mov (.tmp 0)⟩,⟨some 25,none,.len (.tmp 24)⟩,⟨some 26,none,.mov (.cst (.p (.int .i64 0)))⟩]) (lf90_B0)) (.seq (.region [⟨some 61,none,.mov (.tmp 6)⟩,⟨some 62,none,.call 74 [.tmp 61]⟩,⟨some 4,none,.mov (.tmp 62)⟩]) (.ret)))))))⟩
theorem low90 : lowFunc Try.prog gl0 90 = some lf90 := lowF (by kernel_rfl)
def lf47_B0 : LCode := .block 0 (
  .loop (
   .seq (
    .region [
      ⟨(some 18), none, .bin .lss (.tmp 17) (.tmp 16)⟩]) (
    .seq (
     .cond (.tmp 18) (
      .skip) (
      .exit 0)) (
     .seq (
      .block 1 (
       .seq (
        .region [
          ⟨(some 19), none, .mov (.tmp 17)⟩,
          ⟨(some 20), none, .iadr 1 (.tmp 15) (.tmp 17)⟩,
          ⟨(some 21), none, .load 1 false (.tmp 20)⟩,
          ⟨(some 6), none, .mov (.tmp 19)⟩,
          ⟨(some 7), none, .mov (.tmp 21)⟩]) (
        .region [
          ⟨(some 22), none, .mov (.tmp 5)⟩,
          ⟨(some 23), none, .mov (.tmp 6)⟩,
          ⟨(some 24), none, .mov (.tmp 6)⟩,
          ⟨(some 25), none, .mov (.tmp 0)⟩,
          ⟨(some 26), none, .len (.tmp 25)⟩,
          ⟨(some 27), none, .bin .add (.tmp 24) (.tmp 26)⟩,
          ⟨(some 28), none, .bin .add (.tmp 27) (.cst (.p (.int .i64 1)))⟩,
          ⟨(some 29), none, .slSl 1 (.tmp 22) (some (.tmp 23)) (some (.tmp 28)) none⟩,
          ⟨(some 30), none, .mov (.tmp 0)⟩,
          ⟨(some 31), none, .mov (.tmp 7)⟩,
          ⟨(some 32), none, .call 73 [(.tmp 29), (.tmp 30), (.tmp 31)]⟩]))) (
      .region [
        ⟨(some 33), none, .bin .add (.tmp 17) (.cst (.p (.int .i64 1)))⟩,
        ⟨(some 17), none, .mov (.tmp 33)⟩])))))
def lf47 : LFunc := ⟨36,[.slot 4], .seq (.region [⟨some 4,none,.mov (.cst (.tight []))⟩]) (.seq (.region [⟨some 8,none,.mov (.tmp 0)⟩,⟨some 9,none,.len (.tmp 8)⟩,⟨some 10,none,.mov (.tmp 1)⟩,⟨some 11,none,.len (.tmp 10)⟩,⟨some 12,none,.bin .add (.tmp 9) (.tmp 11)⟩,⟨some 13,none,.bin .add (.tmp 12) (.cst (.p (.int .i64 1)))⟩,⟨some 14,none,.mksl 1 8 61 (.p (.int .u64 0)) (.tmp 13) (.tmp 13)⟩,⟨some 5,none,.mov (.tmp 14)⟩]) (.seq (.seq (.region [⟨some 15,none,.mov (.tmp 1)⟩,⟨some 16,none,.len (.tmp 15)⟩,⟨some 17,none,.mov (.cst (.p (.int .i64 0)))⟩]) (lf47_B0)) (.seq (.region [⟨some 34,none,.mov (.tmp 5)⟩,⟨some 35,none,.call 74 [.tmp 34]⟩,⟨some 4,none,.mov (.tmp 35)⟩]) (.ret))))⟩
theorem low47 : lowFunc Try.prog gl0 47 = some lf47 := lowF (by kernel_rfl)
def lf50 : LFunc := ⟨20,[.slot 2], .seq (.region [⟨some 2,none,.mov (.cst (.p (.bool false)))⟩]) (.seq (.region [⟨some 3,none,.mov (.tmp 0)⟩,⟨some 4,none,.len (.tmp 3)⟩,⟨some 5,none,.bin .leq (.tmp 4) (.cst (.p (.int .i64 64)))⟩,⟨some 6,none,.mov (.tmp 5)⟩,⟨some 7,some (6,true),.mov (.tmp 0)⟩,⟨some 8,some (6,true),.len (.tmp 7)⟩,⟨some 9,some (6,true),.bin .eql (.tmp 8) (.cst (.p (.int .i64 0)))⟩,⟨some 10,some (6,true),.mov (.tmp 9)⟩,⟨some 11,some (10,false),.mov (.tmp 0)⟩,⟨some 12,some (10,false),.mov (.tmp 0)⟩,⟨some 13,some (10,false),.len (.tmp 12)⟩,⟨some 14,some (10,false),.bin .sub (.tmp 13) (.cst (.p (.int .i64 1)))⟩,⟨some 15,some (10,false),.iadr 1 (.tmp 11) (.tmp 14)⟩,⟨some 16,some (10,false),.load 1 false (.tmp 15)⟩,⟨some 17,some (10,false),.bin .neq (.tmp 16) (.cst (.p (.int .u64 0)))⟩,⟨some 18,some (6,true),.pick (.tmp 10) (.cst (.p (.bool true))) (.tmp 17)⟩,⟨some 19,none,.pick (.tmp 6) (.tmp 18) (.cst (.p (.bool false)))⟩,⟨some 2,none,.mov (.tmp 19)⟩]) (.ret))⟩
theorem low50 : lowFunc Try.prog gl0 50 = some lf50 := lowF (by kernel_rfl)
def lf84_B0 : LCode := .block 0 (
  .loop (
   .seq (
    .seq (
     .region [
       ⟨(some 13), none, .mov (.tmp 6)⟩,
       ⟨(some 14), none, .bin .geq (.tmp 13) (.cst (.p (.int .i64 0)))⟩]) (
     .cond (.tmp 14) (
      .skip) (
      .exit 0))) (
    .seq (
     .block 1 (
      .region [
        ⟨(some 18), none, .mov (.tmp 4)⟩,
        ⟨(some 19), none, .mov (.tmp 6)⟩,
        ⟨(some 20), none, .mov (.tmp 5)⟩,
        ⟨(some 21), none, .mov (.tmp 0)⟩,
        ⟨(some 22), none, .mov (.tmp 6)⟩,
        ⟨(some 23), none, .iadr 1 (.tmp 21) (.tmp 22)⟩,
        ⟨(some 24), none, .load 1 false (.tmp 23)⟩,
        ⟨(some 25), none, .mov (.tmp 1)⟩,
        ⟨(some 26), none, .call 94 [(.tmp 20), (.tmp 24), (.tmp 25)]⟩,
        ⟨(some 17), none, .mov (.tmp 26)⟩,
        ⟨(some 27), none, .ext (.tmp 17) 0⟩,
        ⟨(some 28), none, .ext (.tmp 17) 1⟩,
        ⟨(some 29), none, .iadr 1 (.tmp 18) (.tmp 19)⟩,
        ⟨none, none, .store 1 (.tmp 29) (.tmp 27)⟩,
        ⟨(some 5), none, .mov (.tmp 28)⟩])) (
     .region [
       ⟨(some 15), none, .mov (.tmp 6)⟩,
       ⟨(some 16), none, .bin .sub (.tmp 15) (.cst (.p (.int .i64 1)))⟩,
       ⟨(some 6), none, .mov (.tmp 16)⟩]))))
def lf84 : LFunc := ⟨33,[.slot 4,.slot 5], .seq (.region [⟨some 4,none,.mov (.cst (.tight []))⟩,⟨some 5,none,.mov (.cst (.p (.int .u64 0)))⟩]) (.seq (.region [⟨some 7,none,.mov (.tmp 0)⟩,⟨some 8,none,.len (.tmp 7)⟩,⟨some 9,none,.mksl 1 8 61 (.p (.int .u64 0)) (.tmp 8) (.tmp 8)⟩,⟨some 4,none,.mov (.tmp 9)⟩]) (.seq (.seq (.region [⟨some 10,none,.mov (.tmp 0)⟩,⟨some 11,none,.len (.tmp 10)⟩,⟨some 12,none,.bin .sub (.tmp 11) (.cst (.p (.int .i64 1)))⟩,⟨some 6,none,.mov (.tmp 12)⟩]) (lf84_B0)) (.seq (.region [⟨some 30,none,.mov (.tmp 4)⟩,⟨some 31,none,.call 74 [.tmp 30]⟩,⟨some 32,none,.mov (.tmp 5)⟩,⟨some 4,none,.mov (.tmp 31)⟩,⟨some 5,none,.mov (.tmp 32)⟩]) (.ret))))⟩
theorem low84 : lowFunc Try.prog gl0 84 = some lf84 := lowF (by kernel_rfl)
def lf87_B0 : LCode := .block 0 (
  .loop (
   .block 1 (
    .seq (
     .region [
       ⟨(some 27), none, .mov (.tmp 11)⟩,
       ⟨(some 28), none, .mov (.tmp 4)⟩,
       ⟨(some 29), none, .call 91 [(.tmp 27), (.tmp 28)]⟩,
       ⟨(some 26), none, .mov (.tmp 29)⟩,
       ⟨(some 30), none, .ext (.tmp 26) 0⟩,
       ⟨(some 31), none, .ext (.tmp 26) 1⟩,
       ⟨(some 13), none, .mov (.tmp 30)⟩,
       ⟨(some 14), none, .mov (.tmp 31)⟩]) (
     .seq (
      .seq (
       .region [
         ⟨(some 32), none, .mov (.tmp 13)⟩,
         ⟨(some 33), none, .mov (.tmp 12)⟩,
         ⟨(some 34), none, .bin .lss (.tmp 32) (.tmp 33)⟩,
         ⟨(some 35), none, .mov (.tmp 34)⟩,
         ⟨(some 36), (some (35, false)), .mov (.tmp 13)⟩,
         ⟨(some 37), (some (35, false)), .mov (.tmp 12)⟩,
         ⟨(some 38), (some (35, false)), .bin .eql (.tmp 36) (.tmp 37)⟩,
         ⟨(some 39), (some (35, false)), .mov (.tmp 38)⟩,
         ⟨(some 40), (some (39, true)), .mov (.tmp 14)⟩,
         ⟨(some 41), (some (39, true)), .mov (.tmp 2)⟩,
         ⟨(some 42), (some (39, true)), .bin .leq (.tmp 40) (.tmp 41)⟩,
         ⟨(some 43), (some (35, false)), .pick (.tmp 39) (.tmp 42) (.cst (.p (.bool false)))⟩,
         ⟨(some 44), none, .pick (.tmp 35) (.cst (.p (.bool true))) (.tmp 43)⟩]) (
       .cond (.tmp 44) (
        .seq (
         .region [
           ⟨(some 45), none, .mov (.tmp 11)⟩,
           ⟨(some 10), none, .mov (.tmp 45)⟩]) (
         .ret)) (
        .skip))) (
      .seq (
       .region [
         ⟨(some 46), none, .mov (.tmp 11)⟩,
         ⟨(some 47), none, .bin .sub (.tmp 46) (.cst (.p (.int .u64 1)))⟩,
         ⟨(some 11), none, .mov (.tmp 47)⟩]) (
       .seq (
        .region [
          ⟨(some 15), none, .mov (.cst (.p (.int .u64 0)))⟩]) (
        .seq (
         .region [
           ⟨(some 49), none, .mov (.tmp 12)⟩,
           ⟨(some 50), none, .mov (.tmp 3)⟩,
           ⟨(some 51), none, .calle 83 [(.tmp 49), (.tmp 50), (.cst (.p (.int .u64 0)))]⟩,
           ⟨(some 48), none, .mov (.tmp 51)⟩,
           ⟨(some 52), none, .ext (.tmp 48) 0⟩,
           ⟨(some 53), none, .ext (.tmp 48) 1⟩,
           ⟨(some 12), none, .mov (.tmp 52)⟩,
           ⟨(some 15), none, .mov (.tmp 53)⟩]) (
         .seq (
          .region [
            ⟨(some 54), none, .mov (.tmp 15)⟩,
            ⟨(some 55), none, .bin .gtr (.tmp 54) (.cst (.p (.int .u64 0)))⟩]) (
          .cond (.tmp 55) (
           .seq (
            .region [
              ⟨(some 56), none, .mov (.tmp 11)⟩,
              ⟨(some 10), none, .mov (.tmp 56)⟩]) (
            .ret)) (
           .skip))))))))))
def lf87 : LFunc := ⟨57,[.slot 10], .seq (.region [⟨some 10,none,.mov (.cst (.p (.int .u64 0)))⟩]) (.seq (.seq (.region [⟨some 16,none,.mov (.tmp 0)⟩,⟨some 17,none,.mov (.tmp 3)⟩,⟨some 18,none,.bin .geq (.tmp 16) (.tmp 17)⟩]) (.cond (.tmp 18) (.seq (.region [⟨some 10,none,.mov (.cst (.p (.int .u64 18446744073709551615)))⟩]) (.ret)) (.skip))) (.seq (.region [⟨some 20,none,.mov (.tmp 0)⟩,⟨some 21,none,.mov (.tmp 1)⟩,⟨some 22,none,.mov (.tmp 3)⟩,⟨some 23,none,.call 94 [.tmp 20,.tmp 21,.tmp 22]⟩,⟨some 19,none,.mov (.tmp 23)⟩,⟨some 24,none,.ext (.tmp 19) 0⟩,⟨some 25,none,.ext (.tmp 19) 1⟩,⟨some 11,none,.mov (.tmp 24)⟩,⟨some 12,none,.mov (.tmp 25)⟩]) (lf87_B0)))⟩
theorem low87 : lowFunc Try.prog gl0 87 = some lf87 := lowF (by kernel_rfl)
def lf88_B0 : LCode := .block 0 (
  .loop (
   .seq (
    .region [
      ⟨(some 17), none, .bin .lss (.tmp 16) (.tmp 15)⟩]) (
    .seq (
     .cond (.tmp 17) (
      .skip) (
      .exit 0)) (
     .seq (
      .block 1 (
       .seq (
        .region [
          ⟨(some 18), none, .mov (.tmp 16)⟩,
          ⟨(some 19), none, .iadr 1 (.tmp 14) (.tmp 16)⟩,
          ⟨(some 20), none, .load 1 false (.tmp 19)⟩,
          ⟨(some 9), none, .mov (.tmp 18)⟩,
          ⟨(some 10), none, .mov (.tmp 20)⟩]) (
        .seq (
         .region [
           ⟨(some 22), none, .mov (.tmp 10)⟩,
           ⟨(some 23), none, .mov (.tmp 2)⟩,
           ⟨(some 24), none, .call 91 [(.tmp 22), (.tmp 23)]⟩,
           ⟨(some 21), none, .mov (.tmp 24)⟩,
           ⟨(some 25), none, .ext (.tmp 21) 0⟩,
           ⟨(some 26), none, .ext (.tmp 21) 1⟩,
           ⟨(some 11), none, .mov (.tmp 25)⟩,
           ⟨(some 12), none, .mov (.tmp 26)⟩]) (
         .seq (
          .region [
            ⟨(some 13), none, .mov (.cst (.p (.int .u64 0)))⟩]) (
          .seq (
           .region [
             ⟨(some 28), none, .mov (.tmp 12)⟩,
             ⟨(some 29), none, .mov (.tmp 7)⟩,
             ⟨(some 30), none, .calle 83 [(.tmp 28), (.tmp 29), (.cst (.p (.int .u64 0)))]⟩,
             ⟨(some 27), none, .mov (.tmp 30)⟩,
             ⟨(some 31), none, .ext (.tmp 27) 0⟩,
             ⟨(some 32), none, .ext (.tmp 27) 1⟩,
             ⟨(some 12), none, .mov (.tmp 31)⟩,
             ⟨(some 13), none, .mov (.tmp 32)⟩]) (
           .seq (
            .region [
              ⟨(some 33), none, .mov (.tmp 11)⟩,
              ⟨(some 34), none, .mov (.tmp 13)⟩,
              ⟨(some 35), none, .bin .add (.tmp 33) (.tmp 34)⟩,
              ⟨(some 7), none, .mov (.tmp 35)⟩]) (
            .region [
              ⟨(some 37), none, .mov (.tmp 0)⟩,
              ⟨(some 38), none, .mov (.tmp 9)⟩,
              ⟨(some 39), none, .mov (.tmp 0)⟩,
              ⟨(some 40), none, .mov (.tmp 9)⟩,
              ⟨(some 41), none, .iadr 1 (.tmp 39) (.tmp 40)⟩,
              ⟨(some 42), none, .load 1 false (.tmp 41)⟩,
              ⟨(some 43), none, .mov (.tmp 12)⟩,
              ⟨(some 44), none, .mov (.tmp 8)⟩,
              ⟨(some 45), none, .calle 82 [(.tmp 42), (.tmp 43), (.tmp 44)]⟩,
              ⟨(some 36), none, .mov (.tmp 45)⟩,
              ⟨(some 46), none, .ext (.tmp 36) 0⟩,
              ⟨(some 47), none, .ext (.tmp 36) 1⟩,
              ⟨(some 48), none, .iadr 1 (.tmp 37) (.tmp 38)⟩,
              ⟨none, none, .store 1 (.tmp 48) (.tmp 46)⟩,
              ⟨(some 8), none, .mov (.tmp 47)⟩]))))))) (
      .region [
        ⟨(some 49), none, .bin .add (.tmp 16) (.cst (.p (.int .i64 1)))⟩,
        ⟨(some 16), none, .mov (.tmp 49)⟩])))))
def lf88 : LFunc := ⟨67,[.slot 6], .seq (.region [⟨some 6,none,.mov (.cst (.p (.bool false)))⟩]) (.seq (.region [⟨some 7,none,.mov (.cst (.p (.int .u64 0)))⟩,⟨some 8,none,.mov (.cst (.p (.int .u64 0)))⟩]) (.seq (.seq (.region [⟨some 14,none,.mov (.tmp 1)⟩,⟨some 15,none,.len (.tmp 14)⟩,⟨some 16,none,.mov (.cst (.p (.int .i64 0)))⟩]) (lf88_B0)) (.seq (.region [⟨some 51,none,.mov (.tmp 0)⟩,⟨some 52,none,.mov (.tmp 1)⟩,⟨some 53,none,.len (.tmp 52)⟩,⟨some 54,none,.mov (.tmp 0)⟩,⟨some 55,none,.mov (.tmp 1)⟩,⟨some 56,none,.len (.tmp 55)⟩,⟨some 57,none,.iadr 1 (.tmp 54) (.tmp 56)⟩,⟨some 58,none,.load 1 false (.tmp 57)⟩,⟨some 59,none,.mov (.tmp 7)⟩,⟨some 60,none,.mov (.tmp 8)⟩,⟨some 61,none,.calle 82 [.tmp 58,.tmp 59,.tmp 60]⟩,⟨some 50,none,.mov (.tmp 61)⟩,⟨some 62,none,.ext (.tmp 50) 0⟩,⟨some 63,none,.ext (.tmp 50) 1⟩,⟨some 64,none,.iadr 1 (.tmp 51) (.tmp 53)⟩,⟨none,none,.store 1 (.tmp 64) (.tmp 62)⟩,⟨some 8,none,.mov (.tmp 63)⟩]) (.seq (.region [⟨some 65,none,.mov (.tmp 8)⟩,⟨some 66,none,.bin .gtr (.tmp 65) (.cst (.p (.int .u64 0)))⟩,⟨some 6,none,.mov (.tmp 66)⟩]) (.ret)))))⟩
theorem low88 : lowFunc Try.prog gl0 88 = some lf88 := lowF (by kernel_rfl)
def lf89_B0 : LCode := .block 0 (
  .loop (
   .seq (
    .region [
      ⟨(some 10), none, .bin .lss (.tmp 9) (.tmp 8)⟩]) (
    .seq (
     .cond (.tmp 10) (
      .skip) (
      .exit 0)) (
     .seq (
      .block 1 (
       .seq (
        .region [
          ⟨(some 11), none, .mov (.tmp 9)⟩,
          ⟨(some 12), none, .iadr 1 (.tmp 7) (.tmp 9)⟩,
          ⟨(some 13), none, .load 1 false (.tmp 12)⟩,
          ⟨(some 5), none, .mov (.tmp 11)⟩,
          ⟨(some 6), none, .mov (.tmp 13)⟩]) (
        .region [
          ⟨(some 15), none, .mov (.tmp 0)⟩,
          ⟨(some 16), none, .mov (.tmp 5)⟩,
          ⟨(some 17), none, .mov (.tmp 0)⟩,
          ⟨(some 18), none, .mov (.tmp 5)⟩,
          ⟨(some 19), none, .iadr 1 (.tmp 17) (.tmp 18)⟩,
          ⟨(some 20), none, .load 1 false (.tmp 19)⟩,
          ⟨(some 21), none, .mov (.tmp 6)⟩,
          ⟨(some 22), none, .mov (.tmp 4)⟩,
          ⟨(some 23), none, .calle 83 [(.tmp 20), (.tmp 21), (.tmp 22)]⟩,
          ⟨(some 14), none, .mov (.tmp 23)⟩,
          ⟨(some 24), none, .ext (.tmp 14) 0⟩,
          ⟨(some 25), none, .ext (.tmp 14) 1⟩,
          ⟨(some 26), none, .iadr 1 (.tmp 15) (.tmp 16)⟩,
          ⟨none, none, .store 1 (.tmp 26) (.tmp 24)⟩,
          ⟨(some 4), none, .mov (.tmp 25)⟩]))) (
      .region [
        ⟨(some 27), none, .bin .add (.tmp 9) (.cst (.p (.int .i64 1)))⟩,
        ⟨(some 9), none, .mov (.tmp 27)⟩])))))
def lf89 : LFunc := ⟨36,[], .seq (.region [⟨some 4,none,.mov (.cst (.p (.int .u64 0)))⟩]) (.seq (.seq (.region [⟨some 7,none,.mov (.tmp 1)⟩,⟨some 8,none,.len (.tmp 7)⟩,⟨some 9,none,.mov (.cst (.p (.int .i64 0)))⟩]) (lf89_B0)) (.region [⟨some 28,none,.mov (.tmp 0)⟩,⟨some 29,none,.mov (.tmp 1)⟩,⟨some 30,none,.len (.tmp 29)⟩,⟨some 31,none,.iadr 1 (.tmp 28) (.tmp 30)⟩,⟨some 32,none,.load 1 false (.tmp 31)⟩,⟨some 33,none,.mov (.tmp 4)⟩,⟨some 34,none,.bin .add (.tmp 32) (.tmp 33)⟩,⟨some 35,none,.iadr 1 (.tmp 28) (.tmp 30)⟩,⟨none,none,.store 1 (.tmp 35) (.tmp 34)⟩]))⟩
theorem low89 : lowFunc Try.prog gl0 89 = some lf89 := lowF (by kernel_rfl)
def lf73_B0 : LCode := .block 0 (
  .loop (
   .seq (
    .region [
      ⟨(some 15), none, .bin .lss (.tmp 14) (.tmp 13)⟩]) (
    .seq (
     .cond (.tmp 15) (
      .skip) (
      .exit 0)) (
     .seq (
      .block 1 (
       .seq (
        .region [
          ⟨(some 16), none, .mov (.tmp 14)⟩,
          ⟨(some 17), none, .iadr 1 (.tmp 12) (.tmp 14)⟩,
          ⟨(some 18), none, .load 1 false (.tmp 17)⟩,
          ⟨(some 7), none, .mov (.tmp 16)⟩,
          ⟨(some 8), none, .mov (.tmp 18)⟩]) (
        .seq (
         .region [
           ⟨(some 20), none, .mov (.tmp 8)⟩,
           ⟨(some 21), none, .mov (.tmp 2)⟩,
           ⟨(some 22), none, .call 91 [(.tmp 20), (.tmp 21)]⟩,
           ⟨(some 19), none, .mov (.tmp 22)⟩,
           ⟨(some 23), none, .ext (.tmp 19) 0⟩,
           ⟨(some 24), none, .ext (.tmp 19) 1⟩,
           ⟨(some 9), none, .mov (.tmp 23)⟩,
           ⟨(some 10), none, .mov (.tmp 24)⟩]) (
         .seq (
          .region [
            ⟨(some 11), none, .mov (.cst (.p (.int .u64 0)))⟩]) (
          .seq (
           .region [
             ⟨(some 26), none, .mov (.tmp 10)⟩,
             ⟨(some 27), none, .mov (.tmp 6)⟩,
             ⟨(some 28), none, .calle 83 [(.tmp 26), (.tmp 27), (.cst (.p (.int .u64 0)))]⟩,
             ⟨(some 25), none, .mov (.tmp 28)⟩,
             ⟨(some 29), none, .ext (.tmp 25) 0⟩,
             ⟨(some 30), none, .ext (.tmp 25) 1⟩,
             ⟨(some 10), none, .mov (.tmp 29)⟩,
             ⟨(some 11), none, .mov (.tmp 30)⟩]) (
           .seq (
            .region [
              ⟨(some 31), none, .mov (.tmp 9)⟩,
              ⟨(some 32), none, .mov (.tmp 11)⟩,
              ⟨(some 33), none, .bin .add (.tmp 31) (.tmp 32)⟩,
              ⟨(some 9), none, .mov (.tmp 33)⟩]) (
            .seq (
             .region [
               ⟨(some 35), none, .mov (.tmp 0)⟩,
               ⟨(some 36), none, .mov (.tmp 7)⟩,
               ⟨(some 37), none, .mov (.tmp 0)⟩,
               ⟨(some 38), none, .mov (.tmp 7)⟩,
               ⟨(some 39), none, .iadr 1 (.tmp 37) (.tmp 38)⟩,
               ⟨(some 40), none, .load 1 false (.tmp 39)⟩,
               ⟨(some 41), none, .mov (.tmp 10)⟩,
               ⟨(some 42), none, .calle 83 [(.tmp 40), (.tmp 41), (.cst (.p (.int .u64 0)))]⟩,
               ⟨(some 34), none, .mov (.tmp 42)⟩,
               ⟨(some 43), none, .ext (.tmp 34) 0⟩,
               ⟨(some 44), none, .ext (.tmp 34) 1⟩,
               ⟨(some 45), none, .iadr 1 (.tmp 35) (.tmp 36)⟩,
               ⟨none, none, .store 1 (.tmp 45) (.tmp 43)⟩,
               ⟨(some 11), none, .mov (.tmp 44)⟩]) (
             .region [
               ⟨(some 46), none, .mov (.tmp 9)⟩,
               ⟨(some 47), none, .mov (.tmp 11)⟩,
               ⟨(some 48), none, .bin .add (.tmp 46) (.tmp 47)⟩,
               ⟨(some 6), none, .mov (.tmp 48)⟩])))))))) (
      .region [
        ⟨(some 49), none, .bin .add (.tmp 14) (.cst (.p (.int .i64 1)))⟩,
        ⟨(some 14), none, .mov (.tmp 49)⟩])))))
def lf73 : LFunc := ⟨58,[], .seq (.region [⟨some 6,none,.mov (.cst (.p (.int .u64 0)))⟩]) (.seq (.seq (.region [⟨some 12,none,.mov (.tmp 1)⟩,⟨some 13,none,.len (.tmp 12)⟩,⟨some 14,none,.mov (.cst (.p (.int .i64 0)))⟩]) (lf73_B0)) (.region [⟨some 50,none,.mov (.tmp 0)⟩,⟨some 51,none,.mov (.tmp 1)⟩,⟨some 52,none,.len (.tmp 51)⟩,⟨some 53,none,.iadr 1 (.tmp 50) (.tmp 52)⟩,⟨some 54,none,.load 1 false (.tmp 53)⟩,⟨some 55,none,.mov (.tmp 6)⟩,⟨some 56,none,.bin .add (.tmp 54) (.tmp 55)⟩,⟨some 57,none,.iadr 1 (.tmp 50) (.tmp 52)⟩,⟨none,none,.store 1 (.tmp 57) (.tmp 56)⟩]))⟩
theorem low73 : lowFunc Try.prog gl0 73 = some lf73 := lowF (by kernel_rfl)
def lf74_B0 : LCode := .block 0 (
  .loop (
   .seq (
    .seq (
     .region [
       ⟨(some 3), none, .mov (.tmp 0)⟩,
       ⟨(some 4), none, .len (.tmp 3)⟩,
       ⟨(some 5), none, .bin .gtr (.tmp 4) (.cst (.p (.int .i64 0)))⟩,
       ⟨(some 6), none, .mov (.tmp 5)⟩,
       ⟨(some 7), (some (6, true)), .mov (.tmp 0)⟩,
       ⟨(some 8), (some (6, true)), .mov (.tmp 0)⟩,
       ⟨(some 9), (some (6, true)), .len (.tmp 8)⟩,
       ⟨(some 10), (some (6, true)), .bin .sub (.tmp 9) (.cst (.p (.int .i64 1)))⟩,
       ⟨(some 11), (some (6, true)), .iadr 1 (.tmp 7) (.tmp 10)⟩,
       ⟨(some 12), (some (6, true)), .load 1 false (.tmp 11)⟩,
       ⟨(some 13), (some (6, true)), .bin .eql (.tmp 12) (.cst (.p (.int .u64 0)))⟩,
       ⟨(some 14), none, .pick (.tmp 6) (.tmp 13) (.cst (.p (.bool false)))⟩]) (
     .cond (.tmp 14) (
      .skip) (
      .exit 0))) (
    .block 1 (
     .region [
       ⟨(some 15), none, .mov (.tmp 0)⟩,
       ⟨(some 16), none, .mov (.tmp 0)⟩,
       ⟨(some 17), none, .len (.tmp 16)⟩,
       ⟨(some 18), none, .bin .sub (.tmp 17) (.cst (.p (.int .i64 1)))⟩,
       ⟨(some 19), none, .slSl 1 (.tmp 15) none (some (.tmp 18)) none⟩,
       ⟨(some 0), none, .mov (.tmp 19)⟩]))))
def lf74 : LFunc := ⟨24,[.slot 2], .seq (.region [⟨some 2,none,.mov (.cst (.tight []))⟩]) (.seq (lf74_B0) (.seq (.seq (.region [⟨some 20,none,.mov (.tmp 0)⟩,⟨some 21,none,.len (.tmp 20)⟩,⟨some 22,none,.bin .eql (.tmp 21) (.cst (.p (.int .i64 0)))⟩]) (.cond (.tmp 22) (.seq (.region [⟨some 2,none,.mov (.cst (.tight []))⟩]) (.ret)) (.skip))) (.seq (.region [⟨some 23,none,.mov (.tmp 0)⟩,⟨some 2,none,.mov (.tmp 23)⟩]) (.ret))))⟩
theorem low74 : lowFunc Try.prog gl0 74 = some lf74 := lowF (by kernel_rfl)
def lf48 : LFunc := ⟨8,[.slot 2], .seq (.region [⟨some 2,none,.mov (.cst (.tight []))⟩]) (.seq (.seq (.region [⟨some 3,none,.mov (.tmp 0)⟩,⟨some 4,none,.eqS false (.tmp 3) (.cst (.tight []))⟩]) (.cond (.tmp 4) (.seq (.region [⟨some 2,none,.mov (.cst (.tight []))⟩]) (.ret)) (.skip))) (.seq (.region [⟨some 5,none,.buildSl 1 61 (.p (.int .u64 0)) 0 []⟩,⟨some 6,none,.mov (.tmp 0)⟩,⟨some 7,none,.app 1 8 61 (.tmp 5) (.tmp 6)⟩,⟨some 2,none,.mov (.tmp 7)⟩]) (.ret)))⟩
theorem low48 : lowFunc Try.prog gl0 48 = some lf48 := lowF (by kernel_rfl)
end Go.Proofs.Ytepfpgnjpkcgmaa
