/-
  strings.Fields at the text of reserved words gives these words. No conditions.
-/
import Derived.Test.YthnkmebnigefaaaDoorLexB
import Derived.Test.YthnkmebnigefaaaDoorAbsThree
set_option linter.unusedSimpArgs false
set_option linter.unusedVariables false
set_option linter.constructorNameAsVariable false

/-
  lex: the words that have a meaning of their own.
-/
namespace Go.Proofs.YthnkmebnigefaaaDoor
open Go Go.Abs
set_option maxRecDepth 100000

/-- What the table of blanks holds. -/
def spaceCell (i : Nat) : Int := if (9 ≤ i ∧ i ≤ 13) ∨ i = 32 then 1 else 0
def asciiCells : List PVal := (List.range 256).map fun i => .int .u8 (spaceCell i)
def gl1 : Nat → AVal := fun g => if g = 0 then .p (.cptr asciiCells) else .junk
def lf38_B0 : LCode := .block 0 (
  .loop (
   .seq (
    .seq (
     .region [
       ⟨(some 13), none, .mov (.tmp 6)⟩,
       ⟨(some 14), none, .mov (.tmp 0)⟩,
       ⟨(some 15), none, .lenS (.tmp 14)⟩,
       ⟨(some 16), none, .bin .lss (.tmp 13) (.tmp 15)⟩]) (
     .cond (.tmp 16) (
      .skip) (
      .exit 0))) (
    .seq (
     .block 1 (
      .seq (
       .region [
         ⟨(some 19), none, .mov (.tmp 0)⟩,
         ⟨(some 20), none, .mov (.tmp 6)⟩,
         ⟨(some 21), none, .istr (.tmp 19) (.tmp 20)⟩,
         ⟨(some 7), none, .mov (.tmp 21)⟩]) (
       .seq (
        .region [
          ⟨(some 22), none, .mov (.tmp 5)⟩,
          ⟨(some 23), none, .mov (.tmp 7)⟩,
          ⟨(some 24), none, .bin .or (.tmp 22) (.tmp 23)⟩,
          ⟨(some 5), none, .mov (.tmp 24)⟩]) (
        .seq (
         .region [
           ⟨(some 25), none, .mov (.tmp 7)⟩,
           ⟨(some 26), none, .iaadr 256 1 (.cst (.p (.cptr asciiCells))) (.tmp 25)⟩,
           ⟨(some 27), none, .load 1 false (.tmp 26)⟩,
           ⟨(some 28), none, .conv (.toInt .i64) (.tmp 27)⟩,
           ⟨(some 8), none, .mov (.tmp 28)⟩]) (
         .seq (
          .region [
            ⟨(some 29), none, .mov (.tmp 3)⟩,
            ⟨(some 30), none, .mov (.tmp 4)⟩,
            ⟨(some 31), none, .mov (.tmp 8)⟩,
            ⟨(some 32), none, .un .xor (.tmp 31)⟩,
            ⟨(some 33), none, .bin .and (.tmp 30) (.tmp 32)⟩,
            ⟨(some 34), none, .bin .add (.tmp 29) (.tmp 33)⟩,
            ⟨(some 3), none, .mov (.tmp 34)⟩]) (
          .region [
            ⟨(some 35), none, .mov (.tmp 8)⟩,
            ⟨(some 4), none, .mov (.tmp 35)⟩])))))) (
     .region [
       ⟨(some 17), none, .mov (.tmp 6)⟩,
       ⟨(some 18), none, .bin .add (.tmp 17) (.cst (.p (.int .i64 1)))⟩,
       ⟨(some 6), none, .mov (.tmp 18)⟩]))))
def lf38_B1 : LCode := .block 2 (
  .loop (
   .seq (
    .seq (
     .region [
       ⟨(some 42), none, .mov (.tmp 12)⟩,
       ⟨(some 43), none, .mov (.tmp 0)⟩,
       ⟨(some 44), none, .lenS (.tmp 43)⟩,
       ⟨(some 45), none, .bin .lss (.tmp 42) (.tmp 44)⟩,
       ⟨(some 46), none, .mov (.tmp 45)⟩,
       ⟨(some 47), (some (46, true)), .mov (.tmp 0)⟩,
       ⟨(some 48), (some (46, true)), .mov (.tmp 12)⟩,
       ⟨(some 49), (some (46, true)), .istr (.tmp 47) (.tmp 48)⟩,
       ⟨(some 50), (some (46, true)), .iaadr 256 1 (.cst (.p (.cptr asciiCells))) (.tmp 49)⟩,
       ⟨(some 51), (some (46, true)), .load 1 false (.tmp 50)⟩,
       ⟨(some 52), (some (46, true)), .bin .neq (.tmp 51) (.cst (.p (.int .u8 0)))⟩,
       ⟨(some 53), none, .pick (.tmp 46) (.tmp 52) (.cst (.p (.bool false)))⟩]) (
     .cond (.tmp 53) (
      .skip) (
      .exit 2))) (
    .block 3 (
     .region [
       ⟨(some 54), none, .mov (.tmp 12)⟩,
       ⟨(some 55), none, .bin .add (.tmp 54) (.cst (.p (.int .i64 1)))⟩,
       ⟨(some 12), none, .mov (.tmp 55)⟩]))))
def lf38_B2 : LCode := .block 6 (
  .loop (
   .seq (
    .seq (
     .region [
       ⟨(some 80), none, .mov (.tmp 12)⟩,
       ⟨(some 81), none, .mov (.tmp 0)⟩,
       ⟨(some 82), none, .lenS (.tmp 81)⟩,
       ⟨(some 83), none, .bin .lss (.tmp 80) (.tmp 82)⟩,
       ⟨(some 84), none, .mov (.tmp 83)⟩,
       ⟨(some 85), (some (84, true)), .mov (.tmp 0)⟩,
       ⟨(some 86), (some (84, true)), .mov (.tmp 12)⟩,
       ⟨(some 87), (some (84, true)), .istr (.tmp 85) (.tmp 86)⟩,
       ⟨(some 88), (some (84, true)), .iaadr 256 1 (.cst (.p (.cptr asciiCells))) (.tmp 87)⟩,
       ⟨(some 89), (some (84, true)), .load 1 false (.tmp 88)⟩,
       ⟨(some 90), (some (84, true)), .bin .neq (.tmp 89) (.cst (.p (.int .u8 0)))⟩,
       ⟨(some 91), none, .pick (.tmp 84) (.tmp 90) (.cst (.p (.bool false)))⟩]) (
     .cond (.tmp 91) (
      .skip) (
      .exit 6))) (
    .block 7 (
     .region [
       ⟨(some 92), none, .mov (.tmp 12)⟩,
       ⟨(some 93), none, .bin .add (.tmp 92) (.cst (.p (.int .i64 1)))⟩,
       ⟨(some 12), none, .mov (.tmp 93)⟩]))))
def lf38_B3 : LCode := .block 4 (
  .loop (
   .seq (
    .seq (
     .region [
       ⟨(some 57), none, .mov (.tmp 12)⟩,
       ⟨(some 58), none, .mov (.tmp 0)⟩,
       ⟨(some 59), none, .lenS (.tmp 58)⟩,
       ⟨(some 60), none, .bin .lss (.tmp 57) (.tmp 59)⟩]) (
     .cond (.tmp 60) (
      .skip) (
      .exit 4))) (
    .block 5 (
     .seq (
      .seq (
       .region [
         ⟨(some 61), none, .mov (.tmp 0)⟩,
         ⟨(some 62), none, .mov (.tmp 12)⟩,
         ⟨(some 63), none, .istr (.tmp 61) (.tmp 62)⟩,
         ⟨(some 64), none, .iaadr 256 1 (.cst (.p (.cptr asciiCells))) (.tmp 63)⟩,
         ⟨(some 65), none, .load 1 false (.tmp 64)⟩,
         ⟨(some 66), none, .bin .eql (.tmp 65) (.cst (.p (.int .u8 0)))⟩]) (
       .cond (.tmp 66) (
        .seq (
         .region [
           ⟨(some 67), none, .mov (.tmp 12)⟩,
           ⟨(some 68), none, .bin .add (.tmp 67) (.cst (.p (.int .i64 1)))⟩,
           ⟨(some 12), none, .mov (.tmp 68)⟩]) (
         .exit 5)) (
        .skip))) (
      .seq (
       .region [
         ⟨(some 69), none, .mov (.tmp 9)⟩,
         ⟨(some 70), none, .mov (.tmp 10)⟩,
         ⟨(some 71), none, .mov (.tmp 0)⟩,
         ⟨(some 72), none, .mov (.tmp 11)⟩,
         ⟨(some 73), none, .mov (.tmp 12)⟩,
         ⟨(some 74), none, .slStr (.tmp 71) (some (.tmp 72)) (some (.tmp 73))⟩,
         ⟨(some 75), none, .iadr 1 (.tmp 69) (.tmp 70)⟩,
         ⟨none, none, .store 1 (.tmp 75) (.tmp 74)⟩]) (
       .seq (
        .region [
          ⟨(some 76), none, .mov (.tmp 10)⟩,
          ⟨(some 77), none, .bin .add (.tmp 76) (.cst (.p (.int .i64 1)))⟩,
          ⟨(some 10), none, .mov (.tmp 77)⟩]) (
        .seq (
         .region [
           ⟨(some 78), none, .mov (.tmp 12)⟩,
           ⟨(some 79), none, .bin .add (.tmp 78) (.cst (.p (.int .i64 1)))⟩,
           ⟨(some 12), none, .mov (.tmp 79)⟩]) (
         .seq (
          lf38_B2) (
          .region [
            ⟨(some 94), none, .mov (.tmp 12)⟩,
            ⟨(some 11), none, .mov (.tmp 94)⟩])))))))))
def lf38 : LFunc := ⟨106, [(.slot 2)], (
  .seq (
   .region [
     ⟨(some 2), none, .mov (.cst (.tight []))⟩]) (
   .seq (
    .region [
      ⟨(some 3), none, .mov (.cst (.p (.int .i64 0)))⟩]) (
    .seq (
     .region [
       ⟨(some 4), none, .mov (.cst (.p (.int .i64 1)))⟩]) (
     .seq (
      .region [
        ⟨(some 5), none, .mov (.cst (.p (.int .u8 0)))⟩]) (
      .seq (
       .seq (
        .region [
          ⟨(some 6), none, .mov (.cst (.p (.int .i64 0)))⟩]) (
        lf38_B0)) (
       .seq (
        .seq (
         .region [
           ⟨(some 36), none, .mov (.tmp 5)⟩,
           ⟨(some 37), none, .bin .geq (.tmp 36) (.cst (.p (.int .u8 128)))⟩]) (
         .cond (.tmp 37) (
          .seq (
           .region [
             ⟨(some 38), none, .mov (.tmp 0)⟩,
             ⟨(some 39), none, .call 46 [(.tmp 38), (.cst (.p (.clo 47 [])))]⟩,
             ⟨(some 2), none, .mov (.tmp 39)⟩]) (
           .ret)) (
          .skip))) (
        .seq (
         .region [
           ⟨(some 40), none, .mov (.tmp 3)⟩,
           ⟨(some 41), none, .mksl 1 16 9 (.p (.str [])) (.tmp 40) (.tmp 40)⟩,
           ⟨(some 9), none, .mov (.tmp 41)⟩]) (
         .seq (
          .region [
            ⟨(some 10), none, .mov (.cst (.p (.int .i64 0)))⟩]) (
          .seq (
           .region [
             ⟨(some 11), none, .mov (.cst (.p (.int .i64 0)))⟩]) (
           .seq (
            .region [
              ⟨(some 12), none, .mov (.cst (.p (.int .i64 0)))⟩]) (
            .seq (
             lf38_B1) (
             .seq (
              .region [
                ⟨(some 56), none, .mov (.tmp 12)⟩,
                ⟨(some 11), none, .mov (.tmp 56)⟩]) (
              .seq (
               lf38_B3) (
               .seq (
                .seq (
                 .region [
                   ⟨(some 95), none, .mov (.tmp 11)⟩,
                   ⟨(some 96), none, .mov (.tmp 0)⟩,
                   ⟨(some 97), none, .lenS (.tmp 96)⟩,
                   ⟨(some 98), none, .bin .lss (.tmp 95) (.tmp 97)⟩]) (
                 .cond (.tmp 98) (
                  .region [
                    ⟨(some 99), none, .mov (.tmp 9)⟩,
                    ⟨(some 100), none, .mov (.tmp 10)⟩,
                    ⟨(some 101), none, .mov (.tmp 0)⟩,
                    ⟨(some 102), none, .mov (.tmp 11)⟩,
                    ⟨(some 103), none, .slStr (.tmp 101) (some (.tmp 102)) none⟩,
                    ⟨(some 104), none, .iadr 1 (.tmp 99) (.tmp 100)⟩,
                    ⟨none, none, .store 1 (.tmp 104) (.tmp 103)⟩]) (
                  .skip))) (
                .seq (
                 .region [
                   ⟨(some 105), none, .mov (.tmp 9)⟩,
                   ⟨(some 2), none, .mov (.tmp 105)⟩]) (
                 .ret))))))))))))))))⟩
theorem low38 : lowFunc Tryd.prog gl1 38 = some lf38 := by kernel_rfl
def resText : List UInt8 := [116, 114, 117, 101, 32, 102, 97, 108, 115, 101, 32, 110, 111, 116, 32, 97, 110, 100, 32, 111, 114, 32, 61, 62, 32, 120, 111, 114, 32, 61, 32, 100, 105, 115, 116, 105, 110, 99, 116, 32, 105, 116, 101, 32, 108, 101, 116, 32, 43, 32, 45, 32, 42, 32, 47, 32, 60, 61, 32, 60, 32, 62, 61, 32, 62, 32, 66, 111, 111, 108, 32, 82, 101, 97, 108, 32, 95, 32, 33, 32, 97, 115, 32, 101, 120, 105, 115, 116, 115, 32, 102, 111, 114, 97, 108, 108, 32, 112, 97, 114]
/-- The words that have a meaning of their own. -/
def resWords : List (List UInt8) := [[116, 114, 117, 101], [102, 97, 108, 115, 101], [110, 111, 116], [97, 110, 100], [111, 114], [61, 62], [120, 111, 114], [61], [100, 105, 115, 116, 105, 110, 99, 116], [105, 116, 101], [108, 101, 116], [43], [45], [42], [47], [60, 61], [60], [62, 61], [62], [66, 111, 111, 108], [82, 101, 97, 108], [95], [33], [97, 115], [101, 120, 105, 115, 116, 115], [102, 111, 114, 97, 108, 108], [112, 97, 114]]
def sFields : List PVal → Option PVal
  | [.str s] => if s = resText then some (.lst (resWords.map .str)) else none
  | _ => none
theorem fields_run : runP Tab.none 1000 lf38 [.str resText] = some (.lst (resWords.map .str)) := by kernel_rfl
end Go.Proofs.YthnkmebnigefaaaDoor
