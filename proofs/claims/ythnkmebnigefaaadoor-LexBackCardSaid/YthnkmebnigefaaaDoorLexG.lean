/-
  LexTells answers true on all values, and what the row's listed variables give. No conditions.
-/
import Derived.Test.YthnkmebnigefaaaDoorLexF
import Derived.Test.YthnkmebnigefaaaDoorAbsThree
import Derived.Test.YthnkmebnigefaaaDoorCards
import Derived.Test.YthnkmebnigefaaaDoorTie
import Derived.ProofKit
import Derived.LaidMore
import Derived.OpenShut
import Derived.Stop.Joined
import Derived.Lib.LaidTab
set_option linter.unusedSimpArgs false
set_option linter.unusedVariables false
set_option linter.constructorNameAsVariable false

/-
  lex: LexTells.
-/
namespace Go.Proofs.YthnkmebnigefaaaDoor
open Go Go.Abs
set_option maxRecDepth 20000
attribute [local irreducible] vc
attribute [local simp] pureS touchV freezeL fuel shiftV

def Tl : Tab := (((((((Tab.none.with 8 (pureS sAwake)).with 9 (pureS sAll)).with 10 (pureS sAll)).with 11 (pureS sQuote)).with 12 (pureS sQuoteR)).with 13 (pureS sSame)).with 14 (pureS sPlain)).with 15 (pureS sPlain)
theorem Tl_ok : TabOk Tryd.prog base1 Tl := Tab.with_ok (Tab.with_ok (Tab.with_ok (Tab.with_ok (Tab.with_ok (Tab.with_ok (Tab.with_ok (Tab.with_ok Tab.none_ok awake_ok) all_ok) words_ok) quote_ok) quoteR_ok) same_ok) plain_ok) rplain_ok
theorem Tl_mu (f : FuncId) (a : List AVal) (H : Heap) : Tl.mu f a H = none := (rfl)
theorem Tl_8 : Tl.fn 8 = pureS sAwake := (rfl)
theorem Tl_9 : Tl.fn 9 = pureS sAll := (rfl)
theorem Tl_10 : Tl.fn 10 = pureS sAll := (rfl)
theorem Tl_11 : Tl.fn 11 = pureS sQuote := (rfl)
theorem Tl_12 : Tl.fn 12 = pureS sQuoteR := (rfl)
theorem Tl_13 : Tl.fn 13 = pureS sSame := (rfl)
theorem Tl_14 : Tl.fn 14 = pureS sPlain := (rfl)
theorem Tl_15 : Tl.fn 15 = pureS sPlain := (rfl)

theorem sAwake_nil : sAwake [] = some (.bool true) := rfl

def sTells : List PVal → Option PVal
  | [.lst es, .str _] => match decB es with | some _ => some (.bool true) | none => none
  | _ => none

theorem tells_ok : FnOk Tryd.prog base1 3 (pureS sTells) := by
  refine pure_of_vc hmix Tl_ok globNone low3 fun args z hs hf => ?_
  unfold sTells at hs
  split at hs
  case h_2 => cases hs
  rename_i es s
  cases hd : decB es with
  | none => rw [hd] at hs; cases hs
  | some bs =>
    rw [hd] at hs
    cases hs
    have := decB_some hd
    subst this
    refine ⟨by simp [lf3], ?_⟩
    by_cases hb : (3000 : Int) < bs.length
    · simp [lf3, hb, Tl_mu, Tl_8, sAwake_nil]
    by_cases hl : (300 : Int) < s.length
    · simp [lf3, hb, hl, Tl_mu, Tl_8, sAwake_nil]
    have hall : sAll [.lst (bs.map b8)] = some (.tup [.lst ((allS bs).1.map Wd.v), .int .i64 (allS bs).2]) := by simp only [sAll, decB_map]
    have hsame : ∀ ws : List Wd, sSame [.lst (ws.map Wd.v), .lst (ws.map Wd.v)] = some (.bool true) := fun ws => by simp [sSame, decW_map]
    have hls : s.length ≤ 100000 := by omega
    have hpl : sPlain [.str s] = some (.bool (isPlain s)) := rfl
    generalize (allS bs).1 = ws at hall
    generalize (allS bs).2 = e at hall
    cases hq : quoteS s with
    | none =>
      have h1 : sQuote [.str s] = some (.tup [.str [], .int .i64 2]) := by simp [sQuote, hls, hq]
      have h2 : sQuoteR [.str s] = some (.tup [.str [], .bool false]) := by simp [sQuoteR, hls, hq]
      simp [lf3, hb, hl, Tl_mu, Tl_8, Tl_9, Tl_10, Tl_11, Tl_12, Tl_13, Tl_14, Tl_15, sAwake_nil, hall, hsame, hpl, h1, h2, binS]
    | some q =>
      have h1 : sQuote [.str s] = some (.tup [.str q, .int .i64 0]) := by simp [sQuote, hls, hq]
      have h2 : sQuoteR [.str s] = some (.tup [.str q, .bool true]) := by simp [sQuoteR, hls, hq]
      simp [lf3, hb, hl, Tl_mu, Tl_8, Tl_9, Tl_10, Tl_11, Tl_12, Tl_13, Tl_14, Tl_15, sAwake_nil, hall, hsame, hpl, h1, h2, binS]
end Go.Proofs.YthnkmebnigefaaaDoor

/-
  lex: the row's listed variables, and what they give.
-/
namespace Go.Proofs.YthnkmebnigefaaaDoor
open Go Go.Abs Go.ChangeShapes Go.WideShapes Go.ChangeAt Go.WideMaps Go.WideElems Go.RowKit

/-- What the rows list. -/
abbrev rowLaid : List (String × DataW Unit) := [("unicode.White_Space", Rows.laid_unicode_White_Space), ("strings.asciiSpace", Rows.laid_strings_asciiSpace)]

theorem own : ownKnob Tryd.prog.godebug = none := by kernel_rfl
theorem gSpace : Tryd.prog.globalNamed "strings.asciiSpace" = some 0 := by kernel_rfl
theorem tSpace : (Tryd.prog.globals[0]?).map (·.type) = some 69 := by kernel_rfl
theorem cells69 : Tryd.prog.cellsOf 69 = 256 := by kernel_rfl
theorem cells5 : Tryd.prog.cellsOf 5 = 1 := by kernel_rfl
theorem laidOut : laidOutB Tryd.prog = true := by kernel_rfl

def spaceZs : List Int := (List.range 256).map spaceCell
theorem space_data : (Rows.laid_strings_asciiSpace : DataW Unit) = Lib.tabData .u8 spaceZs := by kernel_rfl

/-- The door's own heap meets the condition. -/
theorem door_met (os : Os) (args : Array Value) : laidMetH Tryd.prog rowLaid ((World.doorLaid Tryd.prog 400 os).forCall (fun _ _ => 0) ⟨#[], args, []⟩).memory :=
  laidMetH_of_parts3 (fuel := 8) (laidMet_of_run' 8 (by kernel_rfl) (by kernel_rfl)) (by kernel_rfl) (by kernel_rfl)

theorem of_laid {W : World} (h : laidMetH Tryd.prog rowLaid W) : Prot.le base1 (allCells W) := by
  rw [MakeChecks.laidMetH_plain _ _ _ (by kernel_rfl)] at h
  obtain ⟨ps, ⟨g0, t0, cs0, f0, p0, q0, hg0, ht0, hv0, hd0, ⟨g1, t1, cs1, f1, p1, q1, hg1, ht1, hv1, hd1, _, _⟩, _⟩, _, _⟩ := h
  obtain rfl := Option.some.inj (gSpace.symm.trans hg1)
  obtain rfl := Option.some.inj (tSpace.symm.trans ht1)
  rw [space_data] at hd1
  have hcs := Lib.cells_of_tab Tryd.underlying69 Tryd.underlying5 cells5 cells69 hd1
  intro b o v hb
  unfold base1 at hb
  split at hb
  case isFalse => cases hb
  rename_i hc
  obtain ⟨rfl, ho⟩ := hc
  cases hb
  have := World.var?_cell hg1 hv1 o
  show W.cell? ⟨0, o, none⟩ = _
  rw [this]
  have h2 : cs1.toList[o]? = some (.int .u8 (spaceCell o)) := by
    rw [hcs]
    simp [spaceZs, ho]
  simpa using h2

end Go.Proofs.YthnkmebnigefaaaDoor
