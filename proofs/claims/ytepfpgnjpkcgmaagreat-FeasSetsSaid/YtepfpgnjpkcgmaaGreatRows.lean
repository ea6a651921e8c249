/-
  No cell of these rows narrows 'for every input' (looked for: loops, veiled, ifaces, maps, wideKeys, modest, calm, conditions, laid).
  DERIVED. THE GIVEN ROWS OF THIS SEAT. 10 by the template 'for every input the law returns true; each argument reads behind the call as it read before'; 0 by the template 'total and deterministic' (their statements: YtepfpgnjpkcgmaaGreatTotals.lean).
  GIVEN WITH THE SEED: the statements are not yours to turn. If you find one false, say at which input.
  Laid BY PROGRAM, IN A SANDBOX (cutbox-rows.mjs): the forced cells as the released guide's own fill.sh prints them over the translation dd8bcd905ef213f0… (all of the seat's roots in one cut). By AI agents, Wed Nov 11 2026. No macro, syntax, notation, axiom, sorry.
-/
import Derived.Test.YtepfpgnjpkcgmaaGreatChecked
import GoSem.Claim
import GoSem.ClaimJoined
import GoSem.ClaimMapViews
import Derived.JoinedTies
import Derived.KernelRfl
namespace Go.Proofs.YtepfpgnjpkcgmaaGreat
/- THE CELL 'sum', in the pinned program and in every row, IS THE sha256 OF THE DUMP (.gsa) THAT YtepfpgnjpkcgmaaGreatProg.lean LOADS. Nothing in Lean hashes anything: it is a label: what it is worth is what the hold of that sum in a sandbox is worth. -/
noncomputable def Tryz.pinned : Pinned := { name := "ytepfpgnjpkcgmaagreat", sum := "dd8bcd905ef213f00a943df0e0ecda0da0c608884685ed22c69fb97089ea7d11", checked := Tryz.checked }
namespace Rows
def none {H : Type} : Left H := { results := [], args := [] }

/-- 'theodolitelaw8.LinearSums': WHATEVER THE INPUT: true; the input reads as it did. -/
def linearSumsSpec : ChangeSpec := { name := "linearSums", fn := fun _ => fun
  | [d1, d2, d3, d4, d5] => { results := [.lit (.bool true)], args := [d1, d2, d3, d4, d5] }
  | _ => none }
def linearSumsRow : OpenClaim := { program := "ytepfpgnjpkcgmaagreat", sum := "dd8bcd905ef213f00a943df0e0ecda0da0c608884685ed22c69fb97089ea7d11", func := "theodolite/theodolitelaw8.LinearSums", spec := "linearSums", inPlace := ["math/bits.Sub64", "math/bits.Add64"], unfollowed := true, recurses := true, named := ["math/bits.divideError", "math/bits.overflowError"], apart := false }
def LinearSumsSaid : Prop := linearSumsRow.holds Tryz.pinned (OpenSpec.ofChange linearSumsSpec)

/-- ITS FALSE NEIGHBOUR: 'it returns false'. Refute it at one input. -/
def linearSumsWrong : ChangeSpec := { name := "linearSums", fn := fun _ => fun
  | [d1, d2, d3, d4, d5] => { results := [.lit (.bool false)], args := [d1, d2, d3, d4, d5] }
  | _ => none }
def LinearSumsWrongFalsely : Prop := linearSumsRow.holds Tryz.pinned (OpenSpec.ofChange linearSumsWrong)

/-- 'theodolitelaw9.AtomTells': WHATEVER THE INPUT: true; the input reads as it did. -/
def atomTellsSpec : ChangeSpec := { name := "atomTells", fn := fun _ => fun
  | [d1, d2, d3] => { results := [.lit (.bool true)], args := [d1, d2, d3] }
  | _ => none }
def atomTellsRow : OpenClaim := { program := "ytepfpgnjpkcgmaagreat", sum := "dd8bcd905ef213f00a943df0e0ecda0da0c608884685ed22c69fb97089ea7d11", func := "theodolite/theodolitelaw9.AtomTells", spec := "atomTells", inPlace := ["math/bits.Sub64", "math/bits.Add64"], unfollowed := true, recurses := true, named := ["math/bits.divideError", "math/bits.overflowError"], apart := false }
def AtomTellsSaid : Prop := atomTellsRow.holds Tryz.pinned (OpenSpec.ofChange atomTellsSpec)

/-- ITS FALSE NEIGHBOUR: 'it returns false'. Refute it at one input. -/
def atomTellsWrong : ChangeSpec := { name := "atomTells", fn := fun _ => fun
  | [d1, d2, d3] => { results := [.lit (.bool false)], args := [d1, d2, d3] }
  | _ => none }
def AtomTellsWrongFalsely : Prop := atomTellsRow.holds Tryz.pinned (OpenSpec.ofChange atomTellsWrong)

/-- 'theodolitelaw9.AtomForms': WHATEVER THE INPUT: true; the input reads as it did. -/
def atomFormsSpec : ChangeSpec := { name := "atomForms", fn := fun _ => fun
  | [d1, d2, d3] => { results := [.lit (.bool true)], args := [d1, d2, d3] }
  | _ => none }
def atomFormsRow : OpenClaim := { program := "ytepfpgnjpkcgmaagreat", sum := "dd8bcd905ef213f00a943df0e0ecda0da0c608884685ed22c69fb97089ea7d11", func := "theodolite/theodolitelaw9.AtomForms", spec := "atomForms", inPlace := ["math/bits.Sub64", "math/bits.Add64"], unfollowed := true, recurses := true, named := ["math/bits.divideError", "math/bits.overflowError"], apart := false }
def AtomFormsSaid : Prop := atomFormsRow.holds Tryz.pinned (OpenSpec.ofChange atomFormsSpec)

/-- ITS FALSE NEIGHBOUR: 'it returns false'. Refute it at one input. -/
def atomFormsWrong : ChangeSpec := { name := "atomForms", fn := fun _ => fun
  | [d1, d2, d3] => { results := [.lit (.bool false)], args := [d1, d2, d3] }
  | _ => none }
def AtomFormsWrongFalsely : Prop := atomFormsRow.holds Tryz.pinned (OpenSpec.ofChange atomFormsWrong)

/-- 'theodolitelaw9.AtomOpposites': WHATEVER THE INPUT: true; the input reads as it did. -/
def atomOppositesSpec : ChangeSpec := { name := "atomOpposites", fn := fun _ => fun
  | [d1, d2, d3] => { results := [.lit (.bool true)], args := [d1, d2, d3] }
  | _ => none }
def atomOppositesRow : OpenClaim := { program := "ytepfpgnjpkcgmaagreat", sum := "dd8bcd905ef213f00a943df0e0ecda0da0c608884685ed22c69fb97089ea7d11", func := "theodolite/theodolitelaw9.AtomOpposites", spec := "atomOpposites", inPlace := ["math/bits.Sub64", "math/bits.Add64"], unfollowed := true, recurses := true, named := ["math/bits.divideError", "math/bits.overflowError"], apart := false }
def AtomOppositesSaid : Prop := atomOppositesRow.holds Tryz.pinned (OpenSpec.ofChange atomOppositesSpec)

/-- ITS FALSE NEIGHBOUR: 'it returns false'. Refute it at one input. -/
def atomOppositesWrong : ChangeSpec := { name := "atomOpposites", fn := fun _ => fun
  | [d1, d2, d3] => { results := [.lit (.bool false)], args := [d1, d2, d3] }
  | _ => none }
def AtomOppositesWrongFalsely : Prop := atomOppositesRow.holds Tryz.pinned (OpenSpec.ofChange atomOppositesWrong)

/-- 'theodolitelaw22.FeasTells': WHATEVER THE INPUT: true; the input reads as it did. -/
def feasTellsSpec : ChangeSpec := { name := "feasTells", fn := fun _ => fun
  | [d1, d2, d3, d4] => { results := [.lit (.bool true)], args := [d1, d2, d3, d4] }
  | _ => none }
def feasTellsRow : OpenClaim := { program := "ytepfpgnjpkcgmaagreat", sum := "dd8bcd905ef213f00a943df0e0ecda0da0c608884685ed22c69fb97089ea7d11", func := "theodolite/theodolitelaw22.FeasTells", spec := "feasTells", inPlace := ["math/bits.Sub64", "math/bits.Add64"], unfollowed := true, recurses := true, named := ["math/bits.divideError", "math/bits.overflowError"], apart := false }
def FeasTellsSaid : Prop := feasTellsRow.holds Tryz.pinned (OpenSpec.ofChange feasTellsSpec)

/-- ITS FALSE NEIGHBOUR: 'it returns false'. Refute it at one input. -/
def feasTellsWrong : ChangeSpec := { name := "feasTells", fn := fun _ => fun
  | [d1, d2, d3, d4] => { results := [.lit (.bool false)], args := [d1, d2, d3, d4] }
  | _ => none }
def FeasTellsWrongFalsely : Prop := feasTellsRow.holds Tryz.pinned (OpenSpec.ofChange feasTellsWrong)

/-- 'theodolitelaw22.FeasOf': WHATEVER THE INPUT: true; the input reads as it did. -/
def feasOfSpec : ChangeSpec := { name := "feasOf", fn := fun _ => fun
  | [d1, d2, d3, d4] => { results := [.lit (.bool true)], args := [d1, d2, d3, d4] }
  | _ => none }
def feasOfRow : OpenClaim := { program := "ytepfpgnjpkcgmaagreat", sum := "dd8bcd905ef213f00a943df0e0ecda0da0c608884685ed22c69fb97089ea7d11", func := "theodolite/theodolitelaw22.FeasOf", spec := "feasOf", inPlace := ["math/bits.Sub64", "math/bits.Add64"], unfollowed := true, recurses := true, named := ["math/bits.divideError", "math/bits.overflowError"], apart := false }
def FeasOfSaid : Prop := feasOfRow.holds Tryz.pinned (OpenSpec.ofChange feasOfSpec)

/-- ITS FALSE NEIGHBOUR: 'it returns false'. Refute it at one input. -/
def feasOfWrong : ChangeSpec := { name := "feasOf", fn := fun _ => fun
  | [d1, d2, d3, d4] => { results := [.lit (.bool false)], args := [d1, d2, d3, d4] }
  | _ => none }
def FeasOfWrongFalsely : Prop := feasOfRow.holds Tryz.pinned (OpenSpec.ofChange feasOfWrong)

/-- 'theodolitelaw22.FeasSets': WHATEVER THE INPUT: true; the input reads as it did. -/
def feasSetsSpec : ChangeSpec := { name := "feasSets", fn := fun _ => fun
  | [d1, d2, d3] => { results := [.lit (.bool true)], args := [d1, d2, d3] }
  | _ => none }
def feasSetsRow : OpenClaim := { program := "ytepfpgnjpkcgmaagreat", sum := "dd8bcd905ef213f00a943df0e0ecda0da0c608884685ed22c69fb97089ea7d11", func := "theodolite/theodolitelaw22.FeasSets", spec := "feasSets", inPlace := ["math/bits.Add64", "math/bits.Sub64"], unfollowed := true, recurses := true, named := ["math/bits.divideError", "math/bits.overflowError"], apart := false }
def FeasSetsSaid : Prop := feasSetsRow.holds Tryz.pinned (OpenSpec.ofChange feasSetsSpec)

/-- ITS FALSE NEIGHBOUR: 'it returns false'. Refute it at one input. -/
def feasSetsWrong : ChangeSpec := { name := "feasSets", fn := fun _ => fun
  | [d1, d2, d3] => { results := [.lit (.bool false)], args := [d1, d2, d3] }
  | _ => none }
def FeasSetsWrongFalsely : Prop := feasSetsRow.holds Tryz.pinned (OpenSpec.ofChange feasSetsWrong)

/-- 'theodolitelaw22.FeasPicks': WHATEVER THE INPUT: true; the input reads as it did. -/
def feasPicksSpec : ChangeSpec := { name := "feasPicks", fn := fun _ => fun
  | [d1, d2] => { results := [.lit (.bool true)], args := [d1, d2] }
  | _ => none }
def feasPicksRow : OpenClaim := { program := "ytepfpgnjpkcgmaagreat", sum := "dd8bcd905ef213f00a943df0e0ecda0da0c608884685ed22c69fb97089ea7d11", func := "theodolite/theodolitelaw22.FeasPicks", spec := "feasPicks", inPlace := ["math/bits.Sub64", "math/bits.Add64"], unfollowed := true, recurses := true, named := ["math/bits.divideError", "math/bits.overflowError"], apart := false }
def FeasPicksSaid : Prop := feasPicksRow.holds Tryz.pinned (OpenSpec.ofChange feasPicksSpec)

/-- ITS FALSE NEIGHBOUR: 'it returns false'. Refute it at one input. -/
def feasPicksWrong : ChangeSpec := { name := "feasPicks", fn := fun _ => fun
  | [d1, d2] => { results := [.lit (.bool false)], args := [d1, d2] }
  | _ => none }
def FeasPicksWrongFalsely : Prop := feasPicksRow.holds Tryz.pinned (OpenSpec.ofChange feasPicksWrong)

/-- 'theodolitelaw22.FeasSays': WHATEVER THE INPUT: true; the input reads as it did. -/
def feasSaysSpec : ChangeSpec := { name := "feasSays", fn := fun _ => fun
  | [d1, d2, d3, d4, d5] => { results := [.lit (.bool true)], args := [d1, d2, d3, d4, d5] }
  | _ => none }
def feasSaysRow : OpenClaim := { program := "ytepfpgnjpkcgmaagreat", sum := "dd8bcd905ef213f00a943df0e0ecda0da0c608884685ed22c69fb97089ea7d11", func := "theodolite/theodolitelaw22.FeasSays", spec := "feasSays", inPlace := ["math/bits.Sub64", "math/bits.Add64"], unfollowed := true, recurses := true, named := ["math/bits.divideError", "math/bits.overflowError"], apart := false }
def FeasSaysSaid : Prop := feasSaysRow.holds Tryz.pinned (OpenSpec.ofChange feasSaysSpec)

/-- ITS FALSE NEIGHBOUR: 'it returns false'. Refute it at one input. -/
def feasSaysWrong : ChangeSpec := { name := "feasSays", fn := fun _ => fun
  | [d1, d2, d3, d4, d5] => { results := [.lit (.bool false)], args := [d1, d2, d3, d4, d5] }
  | _ => none }
def FeasSaysWrongFalsely : Prop := feasSaysRow.holds Tryz.pinned (OpenSpec.ofChange feasSaysWrong)

/-- 'theodolitelaw22.FeasRows': WHATEVER THE INPUT: true; the input reads as it did. -/
def feasRowsSpec : ChangeSpec := { name := "feasRows", fn := fun _ => fun
  | [d1, d2, d3] => { results := [.lit (.bool true)], args := [d1, d2, d3] }
  | _ => none }
def feasRowsRow : OpenClaim := { program := "ytepfpgnjpkcgmaagreat", sum := "dd8bcd905ef213f00a943df0e0ecda0da0c608884685ed22c69fb97089ea7d11", func := "theodolite/theodolitelaw22.FeasRows", spec := "feasRows", inPlace := ["math/bits.Sub64", "math/bits.Add64"], unfollowed := true, recurses := true, named := ["math/bits.divideError", "math/bits.overflowError"], apart := false }
def FeasRowsSaid : Prop := feasRowsRow.holds Tryz.pinned (OpenSpec.ofChange feasRowsSpec)

/-- ITS FALSE NEIGHBOUR: 'it returns false'. Refute it at one input. -/
def feasRowsWrong : ChangeSpec := { name := "feasRows", fn := fun _ => fun
  | [d1, d2, d3] => { results := [.lit (.bool false)], args := [d1, d2, d3] }
  | _ => none }
def FeasRowsWrongFalsely : Prop := feasRowsRow.holds Tryz.pinned (OpenSpec.ofChange feasRowsWrong)

/- THE SECOND FORM. 'bulk': how many values and letters a reading holds, each counted each time it is reached (what is shared counts as often as it is met; a slice's spare places count too). A statement '..UptoSaid' is the law's where the arguments, and the package variables that the reading takes, are together of bulk at most 1048576: NARROWER than '..Said'. Prove '..Said' where nothing that the law and all that it calls make is longer than what came in: it says more and counts as full. Else prove '..UptoSaid'. A law counts once. -/
mutual
def uptoBulk {H : Type} : DataW H → Nat
  | .lit (.string bytes) => bytes.length + 1
  | .lit _ => 1
  | .nil => 1
  | .ptr d => uptoBulk d + 1
  | .slice elems spare => uptoBulkAll elems + uptoBulkAll spare + 1
  | .agg parts => uptoBulkAll parts + 1
  | .iface _ d => uptoBulk d + 1
  | .map entries => uptoBulkEntries entries + 1
  | .held _ => 1
def uptoBulkAll {H : Type} : List (DataW H) → Nat
  | [] => 0
  | d :: r => uptoBulk d + uptoBulkAll r
def uptoBulkEntries {H : Type} : List (Lit × DataW H) → Nat
  | [] => 0
  | x :: r => uptoBulkEntry x + uptoBulkEntries r
def uptoBulkEntry {H : Type} : Lit × DataW H → Nat
  | (.string bytes, d) => bytes.length + uptoBulk d + 1
  | (_, d) => uptoBulk d + 1
 end
def uptoSmall : (H : Type) → List (DataW H) → Bool := fun _ ds => decide (uptoBulkAll ds ≤ 1048576)
def OpenSpec.upto (s : _root_.Go.ChangeSpec) : _root_.Go.OpenSpec := { _root_.Go.OpenSpec.ofChange s with cond := some uptoSmall }

/-- 'theodolitelaw8.LinearSums', WHERE WHAT IT READS IS OF BULK AT MOST 1048576: true; the input reads as it did. -/
def linearSumsUptoRow : OpenClaim := { program := "ytepfpgnjpkcgmaagreat", sum := "dd8bcd905ef213f00a943df0e0ecda0da0c608884685ed22c69fb97089ea7d11", func := "theodolite/theodolitelaw8.LinearSums", spec := "linearSums", inPlace := ["math/bits.Sub64", "math/bits.Add64"], unfollowed := true, recurses := true, named := ["math/bits.divideError", "math/bits.overflowError"], apart := false, narrowed := true }
def LinearSumsUptoSaid : Prop := linearSumsUptoRow.holds Tryz.pinned (OpenSpec.upto linearSumsSpec)

/-- 'theodolitelaw9.AtomTells', WHERE WHAT IT READS IS OF BULK AT MOST 1048576: true; the input reads as it did. -/
def atomTellsUptoRow : OpenClaim := { program := "ytepfpgnjpkcgmaagreat", sum := "dd8bcd905ef213f00a943df0e0ecda0da0c608884685ed22c69fb97089ea7d11", func := "theodolite/theodolitelaw9.AtomTells", spec := "atomTells", inPlace := ["math/bits.Sub64", "math/bits.Add64"], unfollowed := true, recurses := true, named := ["math/bits.divideError", "math/bits.overflowError"], apart := false, narrowed := true }
def AtomTellsUptoSaid : Prop := atomTellsUptoRow.holds Tryz.pinned (OpenSpec.upto atomTellsSpec)

/-- 'theodolitelaw9.AtomForms', WHERE WHAT IT READS IS OF BULK AT MOST 1048576: true; the input reads as it did. -/
def atomFormsUptoRow : OpenClaim := { program := "ytepfpgnjpkcgmaagreat", sum := "dd8bcd905ef213f00a943df0e0ecda0da0c608884685ed22c69fb97089ea7d11", func := "theodolite/theodolitelaw9.AtomForms", spec := "atomForms", inPlace := ["math/bits.Sub64", "math/bits.Add64"], unfollowed := true, recurses := true, named := ["math/bits.divideError", "math/bits.overflowError"], apart := false, narrowed := true }
def AtomFormsUptoSaid : Prop := atomFormsUptoRow.holds Tryz.pinned (OpenSpec.upto atomFormsSpec)

/-- 'theodolitelaw9.AtomOpposites', WHERE WHAT IT READS IS OF BULK AT MOST 1048576: true; the input reads as it did. -/
def atomOppositesUptoRow : OpenClaim := { program := "ytepfpgnjpkcgmaagreat", sum := "dd8bcd905ef213f00a943df0e0ecda0da0c608884685ed22c69fb97089ea7d11", func := "theodolite/theodolitelaw9.AtomOpposites", spec := "atomOpposites", inPlace := ["math/bits.Sub64", "math/bits.Add64"], unfollowed := true, recurses := true, named := ["math/bits.divideError", "math/bits.overflowError"], apart := false, narrowed := true }
def AtomOppositesUptoSaid : Prop := atomOppositesUptoRow.holds Tryz.pinned (OpenSpec.upto atomOppositesSpec)

/-- 'theodolitelaw22.FeasTells', WHERE WHAT IT READS IS OF BULK AT MOST 1048576: true; the input reads as it did. -/
def feasTellsUptoRow : OpenClaim := { program := "ytepfpgnjpkcgmaagreat", sum := "dd8bcd905ef213f00a943df0e0ecda0da0c608884685ed22c69fb97089ea7d11", func := "theodolite/theodolitelaw22.FeasTells", spec := "feasTells", inPlace := ["math/bits.Sub64", "math/bits.Add64"], unfollowed := true, recurses := true, named := ["math/bits.divideError", "math/bits.overflowError"], apart := false, narrowed := true }
def FeasTellsUptoSaid : Prop := feasTellsUptoRow.holds Tryz.pinned (OpenSpec.upto feasTellsSpec)

/-- 'theodolitelaw22.FeasOf', WHERE WHAT IT READS IS OF BULK AT MOST 1048576: true; the input reads as it did. -/
def feasOfUptoRow : OpenClaim := { program := "ytepfpgnjpkcgmaagreat", sum := "dd8bcd905ef213f00a943df0e0ecda0da0c608884685ed22c69fb97089ea7d11", func := "theodolite/theodolitelaw22.FeasOf", spec := "feasOf", inPlace := ["math/bits.Sub64", "math/bits.Add64"], unfollowed := true, recurses := true, named := ["math/bits.divideError", "math/bits.overflowError"], apart := false, narrowed := true }
def FeasOfUptoSaid : Prop := feasOfUptoRow.holds Tryz.pinned (OpenSpec.upto feasOfSpec)

/-- 'theodolitelaw22.FeasSets', WHERE WHAT IT READS IS OF BULK AT MOST 1048576: true; the input reads as it did. -/
def feasSetsUptoRow : OpenClaim := { program := "ytepfpgnjpkcgmaagreat", sum := "dd8bcd905ef213f00a943df0e0ecda0da0c608884685ed22c69fb97089ea7d11", func := "theodolite/theodolitelaw22.FeasSets", spec := "feasSets", inPlace := ["math/bits.Add64", "math/bits.Sub64"], unfollowed := true, recurses := true, named := ["math/bits.divideError", "math/bits.overflowError"], apart := false, narrowed := true }
def FeasSetsUptoSaid : Prop := feasSetsUptoRow.holds Tryz.pinned (OpenSpec.upto feasSetsSpec)

/-- 'theodolitelaw22.FeasPicks', WHERE WHAT IT READS IS OF BULK AT MOST 1048576: true; the input reads as it did. -/
def feasPicksUptoRow : OpenClaim := { program := "ytepfpgnjpkcgmaagreat", sum := "dd8bcd905ef213f00a943df0e0ecda0da0c608884685ed22c69fb97089ea7d11", func := "theodolite/theodolitelaw22.FeasPicks", spec := "feasPicks", inPlace := ["math/bits.Sub64", "math/bits.Add64"], unfollowed := true, recurses := true, named := ["math/bits.divideError", "math/bits.overflowError"], apart := false, narrowed := true }
def FeasPicksUptoSaid : Prop := feasPicksUptoRow.holds Tryz.pinned (OpenSpec.upto feasPicksSpec)

/-- 'theodolitelaw22.FeasSays', WHERE WHAT IT READS IS OF BULK AT MOST 1048576: true; the input reads as it did. -/
def feasSaysUptoRow : OpenClaim := { program := "ytepfpgnjpkcgmaagreat", sum := "dd8bcd905ef213f00a943df0e0ecda0da0c608884685ed22c69fb97089ea7d11", func := "theodolite/theodolitelaw22.FeasSays", spec := "feasSays", inPlace := ["math/bits.Sub64", "math/bits.Add64"], unfollowed := true, recurses := true, named := ["math/bits.divideError", "math/bits.overflowError"], apart := false, narrowed := true }
def FeasSaysUptoSaid : Prop := feasSaysUptoRow.holds Tryz.pinned (OpenSpec.upto feasSaysSpec)

/-- 'theodolitelaw22.FeasRows', WHERE WHAT IT READS IS OF BULK AT MOST 1048576: true; the input reads as it did. -/
def feasRowsUptoRow : OpenClaim := { program := "ytepfpgnjpkcgmaagreat", sum := "dd8bcd905ef213f00a943df0e0ecda0da0c608884685ed22c69fb97089ea7d11", func := "theodolite/theodolitelaw22.FeasRows", spec := "feasRows", inPlace := ["math/bits.Sub64", "math/bits.Add64"], unfollowed := true, recurses := true, named := ["math/bits.divideError", "math/bits.overflowError"], apart := false, narrowed := true }
def FeasRowsUptoSaid : Prop := feasRowsUptoRow.holds Tryz.pinned (OpenSpec.upto feasRowsSpec)

end Rows
end Go.Proofs.YtepfpgnjpkcgmaaGreat
