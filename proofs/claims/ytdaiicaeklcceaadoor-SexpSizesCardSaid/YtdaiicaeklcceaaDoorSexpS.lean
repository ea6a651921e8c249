/-
  What strings.Join and strings.ReplaceAll compute: the library's contracts at this program. No conditions beyond the lemmas' own hypotheses.
-/
import Derived.Shelf.Strings.OnBuilder
import Derived.Shelf.Strings.Replace
import Derived.Test.YtdaiicaeklcceaaDoorProg
set_option linter.unusedSimpArgs false
set_option linter.unnecessarySimpa false
set_option linter.unusedVariables false
set_option linter.constructorNameAsVariable false

/-
 DERIVED: THE SHELF's CONTRACTS AT THIS DUMP, IN PLAIN WORDS (tools/lay-plain.mjs out of 'SjnShelf.lean', which tools/lay-shelf.mjs wrote): THE SAME DECLARATIONS UNDER THE SAME NAMES: 'import', 'namespace', 'open', 'def', 'theorem' AND NOTHING ELSE: no command of the shelf's: FOR A HAND-IN. Each laying: the table of numbers ('.._ren') and one theorem, a field a fact of the dump's own or the kernel's comparison; each contract: ONE APPLICATION.
-/
namespace Go.Proofs
open Go.Shelf
def Tryd.lays156_ren : Go.Shelf.Ren := ⟨fun | 156 => 19 | 165 => 25 | 166 => 26 | 169 => 27 | 240 => 36 | 241 => 37 | 276 => 47 | 277 => 48 | n => n, fun | 31 => 49 | 9 => 9 | 3 => 3 | 4 => 4 | 0 => 0 | 20 => 20 | 72 => 59 | 76 => 63 | 70 => 57 | 37 => 45 | 75 => 62 | 127 => 69 | 164 => 78 | 5 => 5 | 80 => 65 | n => n, fun | n => n⟩
theorem Tryd.lays156 : Go.Proofs.Lays.n156 Tryd.prog Tryd.lays156_ren := {
 mixed := by kernel_rfl
 f156 := Tryd.func19.trans (congrArg some (by kernel_rfl))
 f165 := Tryd.func25.trans (congrArg some (by kernel_rfl))
 f166 := Tryd.func26.trans (congrArg some (by kernel_rfl))
 f169 := Tryd.func27.trans (congrArg some (by kernel_rfl))
 f240 := Tryd.func36.trans (congrArg some (by kernel_rfl))
 f241 := Tryd.func37.trans (congrArg some (by kernel_rfl))
 f276 := Tryd.func47.trans (congrArg some (by kernel_rfl))
 f277 := Tryd.func48.trans (congrArg some (by kernel_rfl))
 t0 := Tryd.underlying0
 a0 := Tryd.isAgg0
 z0 := Tryd.sizeOf0
 v0 := Tryd.zeroValue0
 t3 := Tryd.underlying3
 a3 := Tryd.isAgg3
 z3 := Tryd.sizeOf3
 v3 := Tryd.zeroValue3
 t4 := Tryd.underlying4
 a4 := Tryd.isAgg4
 z4 := Tryd.sizeOf4
 v4 := Tryd.zeroValue4
 t9 := Tryd.underlying9
 a9 := Tryd.isAgg9
 z9 := Tryd.sizeOf9
 v9 := Tryd.zeroValue9
 t20 := Tryd.underlying20
 a20 := Tryd.isAgg20
 z20 := Tryd.sizeOf20
 v20 := Tryd.zeroValue20
 t31 := Tryd.underlying49
 a31 := Tryd.isAgg49
 z31 := Tryd.sizeOf49
 v31 := Tryd.zeroValue49
 t37 := Tryd.underlying45
 a37 := Tryd.isAgg45
 z37 := Tryd.sizeOf45
 v37 := Tryd.zeroValue45
 t70 := Tryd.underlying57
 a70 := Tryd.isAgg57
 z70 := Tryd.sizeOf57
 v70 := Tryd.zeroValue57
 t72 := Tryd.underlying59
 a72 := Tryd.isAgg59
 z72 := Tryd.sizeOf59
 v72 := Tryd.zeroValue59
 t75 := Tryd.underlying62
 a75 := Tryd.isAgg62
 z75 := Tryd.sizeOf62
 v75 := Tryd.zeroValue62
 t76 := Tryd.underlying63
 a76 := Tryd.isAgg63
 z76 := Tryd.sizeOf63
 v76 := Tryd.zeroValue63
 t127 := Tryd.underlying69
 a127 := Tryd.isAgg69
 z127 := Tryd.sizeOf69
 v127 := Tryd.zeroValue69
 t164 := Tryd.underlying78
 a164 := Tryd.isAgg78
 z164 := Tryd.sizeOf78
 v164 := Tryd.zeroValue78 }
theorem Tryd.Builder_Extra_156 : Builder.Extra Tryd.prog Tryd.lays156_ren := {
 sizeBuilder := by kernel_rfl
 liesBuilder := by kernel_rfl
 t5 := Tryd.underlying5
 a5 := Tryd.isAgg5
 z5 := Tryd.sizeOf5
 v5 := Tryd.zeroValue5
 infoByte := by kernel_rfl
 cellsByte := by kernel_rfl
 sizeByte := by kernel_rfl
 neB5 := by decide }
open Go.RowKit in
theorem Tryd.strings_Join_none (a : Option Addr) (c : Nat) (sep : ByteArray) (w : World) :
  Calls Tryd.prog 19 #[.slice a 0 c, .string sep] w fun e w' => e = .returned (.string ⟨#[]⟩) ∧ w' = w := Any.strings_Join_none Tryd.lays156 Tryd.Builder_Extra_156 a c sep w
open Go.RowKit in
theorem Tryd.strings_Join (bk o c : Nat) (xs : List ByteArray) (sep : ByteArray) (w : World) (hcells : ∀ (j : Nat) x, xs[j]? = some x → w.cell? ⟨bk, o + j, none⟩ = some (.string x)) (hbk : bk < w.heap.size) (hN : xs.length ≤ 140737488355328) (hcap : xs.length ≤ c) (hlen : (Lib.join (xs.map (·.data.toList)) sep.data.toList).length ≤ 140737488355328) :
  Calls Tryd.prog 19 #[.slice (some ⟨bk, o, none⟩) xs.length c, .string sep] w fun e w' => e = .returned (.string ⟨(Lib.join (xs.map (·.data.toList)) sep.data.toList).toArray⟩) ∧ Below w.heap.size w w' := Any.strings_Join Tryd.lays156 Tryd.Builder_Extra_156 bk o c xs sep w hcells hbk hN hcap hlen
def Tryd.lays155_ren : Go.Shelf.Ren := ⟨fun | 155 => 24 | 154 => 35 | 138 => 44 | 165 => 25 | 143 => 45 | 166 => 26 | 197 => 46 | 169 => 27 | 195 => 51 | 218 => 52 | 240 => 36 | 241 => 37 | 219 => 53 | 260 => 54 | 276 => 47 | 277 => 48 | 217 => 50 | 225 => 58 | 224 => 59 | 267 => 60 | 266 => 57 | 314 => 61 | n => n, fun | 9 => 9 | 3 => 3 | 4 => 4 | 72 => 59 | 0 => 0 | 76 => 63 | 105 => 76 | 21 => 21 | 5 => 5 | 70 => 57 | 20 => 20 | 37 => 45 | 75 => 62 | 127 => 69 | 164 => 78 | 46 => 100 | 119 => 71 | 139 => 103 | 138 => 102 | 146 => 106 | 51 => 84 | 80 => 65 | n => n, fun | 1 => 2 | 3 => 3 | 4 => 4 | n => n⟩
theorem Tryd.lays155 : Go.Proofs.Lays.n155 Tryd.prog Tryd.lays155_ren := {
 mixed := by kernel_rfl
 f138 := Tryd.func44.trans (congrArg some (by kernel_rfl))
 f143 := Tryd.func45.trans (congrArg some (by kernel_rfl))
 f154 := Tryd.func35.trans (congrArg some (by kernel_rfl))
 f155 := Tryd.func24.trans (congrArg some (by kernel_rfl))
 f165 := Tryd.func25.trans (congrArg some (by kernel_rfl))
 f166 := Tryd.func26.trans (congrArg some (by kernel_rfl))
 f169 := Tryd.func27.trans (congrArg some (by kernel_rfl))
 f195 := Tryd.func51.trans (congrArg some (by kernel_rfl))
 f197 := Tryd.func46.trans (congrArg some (by kernel_rfl))
 f217 := Tryd.func50.trans (congrArg some (by kernel_rfl))
 f218 := Tryd.func52.trans (congrArg some (by kernel_rfl))
 f219 := Tryd.func53.trans (congrArg some (by kernel_rfl))
 f224 := Tryd.func59.trans (congrArg some (by kernel_rfl))
 f225 := Tryd.func58.trans (congrArg some (by kernel_rfl))
 f240 := Tryd.func36.trans (congrArg some (by kernel_rfl))
 f241 := Tryd.func37.trans (congrArg some (by kernel_rfl))
 f260 := Tryd.func54.trans (congrArg some (by kernel_rfl))
 f266 := Tryd.func57.trans (congrArg some (by kernel_rfl))
 f267 := Tryd.func60.trans (congrArg some (by kernel_rfl))
 f276 := Tryd.func47.trans (congrArg some (by kernel_rfl))
 f277 := Tryd.func48.trans (congrArg some (by kernel_rfl))
 f314 := Tryd.func61.trans (congrArg some (by kernel_rfl))
 t0 := Tryd.underlying0
 a0 := Tryd.isAgg0
 z0 := Tryd.sizeOf0
 v0 := Tryd.zeroValue0
 t3 := Tryd.underlying3
 a3 := Tryd.isAgg3
 z3 := Tryd.sizeOf3
 v3 := Tryd.zeroValue3
 t4 := Tryd.underlying4
 a4 := Tryd.isAgg4
 z4 := Tryd.sizeOf4
 v4 := Tryd.zeroValue4
 t5 := Tryd.underlying5
 a5 := Tryd.isAgg5
 z5 := Tryd.sizeOf5
 v5 := Tryd.zeroValue5
 t9 := Tryd.underlying9
 a9 := Tryd.isAgg9
 z9 := Tryd.sizeOf9
 v9 := Tryd.zeroValue9
 t20 := Tryd.underlying20
 a20 := Tryd.isAgg20
 z20 := Tryd.sizeOf20
 v20 := Tryd.zeroValue20
 t21 := Tryd.underlying21
 a21 := Tryd.isAgg21
 z21 := Tryd.sizeOf21
 v21 := Tryd.zeroValue21
 t37 := Tryd.underlying45
 a37 := Tryd.isAgg45
 z37 := Tryd.sizeOf45
 v37 := Tryd.zeroValue45
 t46 := Tryd.underlying100
 a46 := Tryd.isAgg100
 z46 := Tryd.sizeOf100
 v46 := Tryd.zeroValue100
 t51 := Tryd.underlying84
 a51 := Tryd.isAgg84
 z51 := Tryd.sizeOf84
 v51 := Tryd.zeroValue84
 t70 := Tryd.underlying57
 a70 := Tryd.isAgg57
 z70 := Tryd.sizeOf57
 v70 := Tryd.zeroValue57
 t72 := Tryd.underlying59
 a72 := Tryd.isAgg59
 z72 := Tryd.sizeOf59
 v72 := Tryd.zeroValue59
 t75 := Tryd.underlying62
 a75 := Tryd.isAgg62
 z75 := Tryd.sizeOf62
 v75 := Tryd.zeroValue62
 t76 := Tryd.underlying63
 a76 := Tryd.isAgg63
 z76 := Tryd.sizeOf63
 v76 := Tryd.zeroValue63
 t105 := Tryd.underlying76
 a105 := Tryd.isAgg76
 z105 := Tryd.sizeOf76
 v105 := Tryd.zeroValue76
 t119 := Tryd.underlying71
 a119 := Tryd.isAgg71
 z119 := Tryd.sizeOf71
 t127 := Tryd.underlying69
 a127 := Tryd.isAgg69
 z127 := Tryd.sizeOf69
 v127 := Tryd.zeroValue69
 t138 := Tryd.underlying102
 a138 := Tryd.isAgg102
 z138 := Tryd.sizeOf102
 v138 := Tryd.zeroValue102
 t139 := Tryd.underlying103
 a139 := Tryd.isAgg103
 z139 := Tryd.sizeOf103
 v139 := Tryd.zeroValue103
 t146 := Tryd.underlying106
 a146 := Tryd.isAgg106
 z146 := Tryd.sizeOf106
 v146 := Tryd.zeroValue106
 t164 := Tryd.underlying78
 a164 := Tryd.isAgg78
 z164 := Tryd.sizeOf78
 v164 := Tryd.zeroValue78
 g1 := by kernel_rfl
 g3 := by kernel_rfl
 g4 := by kernel_rfl }
theorem Tryd.Builder_Extra_155 : Builder.Extra Tryd.prog Tryd.lays155_ren := {
 sizeBuilder := by kernel_rfl
 liesBuilder := by kernel_rfl
 t5 := Tryd.underlying5
 a5 := Tryd.isAgg5
 z5 := Tryd.sizeOf5
 v5 := Tryd.zeroValue5
 infoByte := by kernel_rfl
 cellsByte := by kernel_rfl
 sizeByte := by kernel_rfl
 neB5 := by decide }
open Go.RowKit Go.Lib in
theorem Tryd.strings_ReplaceAll (s old new : ByteArray) (m : Int) (w : World) (hs : s.size < 4294967281) (hm : w.cell? ⟨2, 0, none⟩ = some (.int .i64 m)) (h1 : 1 ≤ old.size) (hlen : s.size + Lib.countB s old * new.size ≤ 140737488355328) :
  Calls Tryd.prog 24 #[.string s, .string old, .string new] w fun e w' =>
   e = .returned (.string ⟨(Lib.replaceAll s.data.toList old.data.toList new.data.toList).toArray⟩) ∧ Below w.heap.size w w' := Any.strings_ReplaceAll Tryd.lays155 Tryd.Builder_Extra_155 s old new m w hs hm h1 hlen
end Go.Proofs
