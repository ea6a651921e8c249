/-
  No cell of these rows narrows 'for every input' (looked for: loops, veiled, ifaces, maps, wideKeys, modest, calm, conditions, laid).
  DERIVED. THE GIVEN ROWS OF THIS SEAT. 3 by the template 'for every input the law returns true; each argument reads behind the call as it read before'; 0 by the template 'total and deterministic' (their statements: YtgbjjikaenlkmaaGreatTotals.lean).
  GIVEN WITH THE SEED: the statements are not yours to turn. If you find one false, say at which input.
  Laid BY PROGRAM, IN A SANDBOX (cutbox-rows.mjs): the forced cells as the released guide's own fill.sh prints them over the translation 8129207e248b9108… (all of the seat's roots in one cut). By AI agents, Wed Nov 11 2026. No macro, syntax, notation, axiom, sorry.
-/
import Derived.Test.YtgbjjikaenlkmaaGreatChecked
import GoSem.Claim
import GoSem.ClaimJoined
import GoSem.ClaimMapViews
import Derived.JoinedTies
import Derived.KernelRfl
namespace Go.Proofs.YtgbjjikaenlkmaaGreat
/- THE CELL 'sum', in the pinned program and in every row, IS THE sha256 OF THE DUMP (.gsa) THAT YtgbjjikaenlkmaaGreatProg.lean LOADS. Nothing in Lean hashes anything: it is a label: what it is worth is what the hold of that sum in a sandbox is worth. -/
noncomputable def Tryz.pinned : Pinned := { name := "ytgbjjikaenlkmaagreat", sum := "8129207e248b91087cf71c93b17aa32f95ad7d60121ea7e07ab028b31734f809", checked := Tryz.checked }
namespace Rows
def none {H : Type} : Left H := { results := [], args := [] }

/-- 'theodolitelaw24.UfTrue': WHATEVER THE INPUT: true; the input reads as it did. -/
def ufTrueSpec : ChangeSpec := { name := "ufTrue", fn := fun _ => fun
  | [d1, d2, d3, d4, d5] => { results := [.lit (.bool true)], args := [d1, d2, d3, d4, d5] }
  | _ => none }
def ufTrueRow : OpenClaim := { program := "ytgbjjikaenlkmaagreat", sum := "8129207e248b91087cf71c93b17aa32f95ad7d60121ea7e07ab028b31734f809", func := "theodolite/theodolitelaw24.UfTrue", spec := "ufTrue", inPlace := ["math/bits.Sub64", "math/bits.Add64"], unfollowed := true, recurses := true, named := ["math/bits.divideError", "math/bits.overflowError"], apart := false }
def UfTrueSaid : Prop := ufTrueRow.holds Tryz.pinned (OpenSpec.ofChange ufTrueSpec)

/-- ITS FALSE NEIGHBOUR: 'it returns false'. Refute it at one input. -/
def ufTrueWrong : ChangeSpec := { name := "ufTrue", fn := fun _ => fun
  | [d1, d2, d3, d4, d5] => { results := [.lit (.bool false)], args := [d1, d2, d3, d4, d5] }
  | _ => none }
def UfTrueWrongFalsely : Prop := ufTrueRow.holds Tryz.pinned (OpenSpec.ofChange ufTrueWrong)

/-- 'theodolitelaw24.UfTables': WHATEVER THE INPUT: true; the input reads as it did. -/
def ufTablesSpec : ChangeSpec := { name := "ufTables", fn := fun _ => fun
  | [d1, d2] => { results := [.lit (.bool true)], args := [d1, d2] }
  | _ => none }
def ufTablesRow : OpenClaim := { program := "ytgbjjikaenlkmaagreat", sum := "8129207e248b91087cf71c93b17aa32f95ad7d60121ea7e07ab028b31734f809", func := "theodolite/theodolitelaw24.UfTables", spec := "ufTables", inPlace := ["math/bits.Sub64", "math/bits.Add64"], unfollowed := true, recurses := true, named := ["math/bits.divideError", "math/bits.overflowError"], apart := false }
def UfTablesSaid : Prop := ufTablesRow.holds Tryz.pinned (OpenSpec.ofChange ufTablesSpec)

/-- ITS FALSE NEIGHBOUR: 'it returns false'. Refute it at one input. -/
def ufTablesWrong : ChangeSpec := { name := "ufTables", fn := fun _ => fun
  | [d1, d2] => { results := [.lit (.bool false)], args := [d1, d2] }
  | _ => none }
def UfTablesWrongFalsely : Prop := ufTablesRow.holds Tryz.pinned (OpenSpec.ofChange ufTablesWrong)

/-- 'theodolitelaw24.UfWays': WHATEVER THE INPUT: true; the input reads as it did. -/
def ufWaysSpec : ChangeSpec := { name := "ufWays", fn := fun _ => fun
  | [d1, d2, d3, d4] => { results := [.lit (.bool true)], args := [d1, d2, d3, d4] }
  | _ => none }
def ufWaysRow : OpenClaim := { program := "ytgbjjikaenlkmaagreat", sum := "8129207e248b91087cf71c93b17aa32f95ad7d60121ea7e07ab028b31734f809", func := "theodolite/theodolitelaw24.UfWays", spec := "ufWays", inPlace := ["math/bits.Sub64", "math/bits.Add64"], unfollowed := true, recurses := true, named := ["math/bits.divideError", "math/bits.overflowError"], apart := false }
def UfWaysSaid : Prop := ufWaysRow.holds Tryz.pinned (OpenSpec.ofChange ufWaysSpec)

/-- ITS FALSE NEIGHBOUR: 'it returns false'. Refute it at one input. -/
def ufWaysWrong : ChangeSpec := { name := "ufWays", fn := fun _ => fun
  | [d1, d2, d3, d4] => { results := [.lit (.bool false)], args := [d1, d2, d3, d4] }
  | _ => none }
def UfWaysWrongFalsely : Prop := ufWaysRow.holds Tryz.pinned (OpenSpec.ofChange ufWaysWrong)

/- THE SECOND FORM. 'bulk': how many values and letters a reading holds, each counted each time it is reached (what is shared counts as often as it is met; a slice's spare places count too). A statement '..UptoSaid' is the law's where the arguments, and the package variables that the reading takes, are together of bulk at most 1048576: NARROWER than '..Said'. Prove '..Said' where nothing that the law and all that it calls make is longer than what came in: it says more and counts as full. Else prove '..UptoSaid'. A law counts once. -/
mutual
def uptoBulk {H : Type} : DataW H → Nat
  | .lit (.string bytes) => bytes.length + 1
  | .lit _ => 1
  | .nil => 1
  | .ptr d => uptoBulk d + 1
  | .slice elems spare => uptoBulkAll elems + uptoBulkAll spare + 1
  | .agg parts => uptoBulkAll parts + 1
  | .iface _ d => uptoBulk d + 1
  | .map entries => uptoBulkEntries entries + 1
  | .held _ => 1
def uptoBulkAll {H : Type} : List (DataW H) → Nat
  | [] => 0
  | d :: r => uptoBulk d + uptoBulkAll r
def uptoBulkEntries {H : Type} : List (Lit × DataW H) → Nat
  | [] => 0
  | x :: r => uptoBulkEntry x + uptoBulkEntries r
def uptoBulkEntry {H : Type} : Lit × DataW H → Nat
  | (.string bytes, d) => bytes.length + uptoBulk d + 1
  | (_, d) => uptoBulk d + 1
 end
def uptoSmall : (H : Type) → List (DataW H) → Bool := fun _ ds => decide (uptoBulkAll ds ≤ 1048576)
def OpenSpec.upto (s : _root_.Go.ChangeSpec) : _root_.Go.OpenSpec := { _root_.Go.OpenSpec.ofChange s with cond := some uptoSmall }

/-- 'theodolitelaw24.UfTrue', WHERE WHAT IT READS IS OF BULK AT MOST 1048576: true; the input reads as it did. -/
def ufTrueUptoRow : OpenClaim := { program := "ytgbjjikaenlkmaagreat", sum := "8129207e248b91087cf71c93b17aa32f95ad7d60121ea7e07ab028b31734f809", func := "theodolite/theodolitelaw24.UfTrue", spec := "ufTrue", inPlace := ["math/bits.Sub64", "math/bits.Add64"], unfollowed := true, recurses := true, named := ["math/bits.divideError", "math/bits.overflowError"], apart := false, narrowed := true }
def UfTrueUptoSaid : Prop := ufTrueUptoRow.holds Tryz.pinned (OpenSpec.upto ufTrueSpec)

/-- 'theodolitelaw24.UfTables', WHERE WHAT IT READS IS OF BULK AT MOST 1048576: true; the input reads as it did. -/
def ufTablesUptoRow : OpenClaim := { program := "ytgbjjikaenlkmaagreat", sum := "8129207e248b91087cf71c93b17aa32f95ad7d60121ea7e07ab028b31734f809", func := "theodolite/theodolitelaw24.UfTables", spec := "ufTables", inPlace := ["math/bits.Sub64", "math/bits.Add64"], unfollowed := true, recurses := true, named := ["math/bits.divideError", "math/bits.overflowError"], apart := false, narrowed := true }
def UfTablesUptoSaid : Prop := ufTablesUptoRow.holds Tryz.pinned (OpenSpec.upto ufTablesSpec)

/-- 'theodolitelaw24.UfWays', WHERE WHAT IT READS IS OF BULK AT MOST 1048576: true; the input reads as it did. -/
def ufWaysUptoRow : OpenClaim := { program := "ytgbjjikaenlkmaagreat", sum := "8129207e248b91087cf71c93b17aa32f95ad7d60121ea7e07ab028b31734f809", func := "theodolite/theodolitelaw24.UfWays", spec := "ufWays", inPlace := ["math/bits.Sub64", "math/bits.Add64"], unfollowed := true, recurses := true, named := ["math/bits.divideError", "math/bits.overflowError"], apart := false, narrowed := true }
def UfWaysUptoSaid : Prop := ufWaysUptoRow.holds Tryz.pinned (OpenSpec.upto ufWaysSpec)

end Rows
end Go.Proofs.YtgbjjikaenlkmaaGreat
