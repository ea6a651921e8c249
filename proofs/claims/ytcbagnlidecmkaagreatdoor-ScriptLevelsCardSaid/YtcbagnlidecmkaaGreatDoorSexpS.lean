/-
  What strings.Join and strings.ReplaceAll compute: the library's contracts at this program. No conditions beyond the lemmas' own hypotheses.
-/
import Derived.Shelf.Strings.OnBuilder
import Derived.Shelf.Strings.Replace
import Derived.Test.YtcbagnlidecmkaaGreatDoorProg
set_option linter.unusedSimpArgs false
set_option linter.unnecessarySimpa false
set_option linter.unusedVariables false
set_option linter.constructorNameAsVariable false

/-
 DERIVED: THE SHELF's CONTRACTS AT THIS DUMP, IN PLAIN WORDS (tools/lay-plain.mjs out of 'SjnShelf.lean', which tools/lay-shelf.mjs wrote): THE SAME DECLARATIONS UNDER THE SAME NAMES: 'import', 'namespace', 'open', 'def', 'theorem' AND NOTHING ELSE: no command of the shelf's: FOR A HAND-IN. Each laying: the table of numbers ('.._ren') and one theorem, a field a fact of the dump's own or the kernel's comparison; each contract: ONE APPLICATION.
-/
namespace Go.Proofs
open Go.Shelf
def Tryz.lays156_ren : Go.Shelf.Ren := ⟨fun | 156 => 56 | 165 => 75 | 166 => 76 | 169 => 77 | 240 => 90 | 241 => 91 | 276 => 106 | 277 => 107 | n => n, fun | 31 => 43 | 9 => 9 | 3 => 3 | 4 => 4 | 0 => 0 | 20 => 20 | 72 => 116 | 76 => 120 | 70 => 114 | 37 => 47 | 75 => 119 | 127 => 140 | 164 => 153 | 5 => 5 | 80 => 122 | n => n, fun | n => n⟩
theorem Tryz.lays156 : Go.Proofs.Lays.n156 Tryz.prog Tryz.lays156_ren := {
 mixed := by kernel_rfl
 f156 := Tryz.func56.trans (congrArg some (by kernel_rfl))
 f165 := Tryz.func75.trans (congrArg some (by kernel_rfl))
 f166 := Tryz.func76.trans (congrArg some (by kernel_rfl))
 f169 := Tryz.func77.trans (congrArg some (by kernel_rfl))
 f240 := Tryz.func90.trans (congrArg some (by kernel_rfl))
 f241 := Tryz.func91.trans (congrArg some (by kernel_rfl))
 f276 := Tryz.func106.trans (congrArg some (by kernel_rfl))
 f277 := Tryz.func107.trans (congrArg some (by kernel_rfl))
 t0 := Tryz.underlying0
 a0 := Tryz.isAgg0
 z0 := Tryz.sizeOf0
 v0 := Tryz.zeroValue0
 t3 := Tryz.underlying3
 a3 := Tryz.isAgg3
 z3 := Tryz.sizeOf3
 v3 := Tryz.zeroValue3
 t4 := Tryz.underlying4
 a4 := Tryz.isAgg4
 z4 := Tryz.sizeOf4
 v4 := Tryz.zeroValue4
 t9 := Tryz.underlying9
 a9 := Tryz.isAgg9
 z9 := Tryz.sizeOf9
 v9 := Tryz.zeroValue9
 t20 := Tryz.underlying20
 a20 := Tryz.isAgg20
 z20 := Tryz.sizeOf20
 v20 := Tryz.zeroValue20
 t31 := Tryz.underlying43
 a31 := Tryz.isAgg43
 z31 := Tryz.sizeOf43
 v31 := Tryz.zeroValue43
 t37 := Tryz.underlying47
 a37 := Tryz.isAgg47
 z37 := Tryz.sizeOf47
 v37 := Tryz.zeroValue47
 t70 := Tryz.underlying114
 a70 := Tryz.isAgg114
 z70 := Tryz.sizeOf114
 v70 := Tryz.zeroValue114
 t72 := Tryz.underlying116
 a72 := Tryz.isAgg116
 z72 := Tryz.sizeOf116
 v72 := Tryz.zeroValue116
 t75 := Tryz.underlying119
 a75 := Tryz.isAgg119
 z75 := Tryz.sizeOf119
 v75 := Tryz.zeroValue119
 t76 := Tryz.underlying120
 a76 := Tryz.isAgg120
 z76 := Tryz.sizeOf120
 v76 := Tryz.zeroValue120
 t127 := Tryz.underlying140
 a127 := Tryz.isAgg140
 z127 := Tryz.sizeOf140
 v127 := Tryz.zeroValue140
 t164 := Tryz.underlying153
 a164 := Tryz.isAgg153
 z164 := Tryz.sizeOf153
 v164 := Tryz.zeroValue153 }
theorem Tryz.Builder_Extra_156 : Builder.Extra Tryz.prog Tryz.lays156_ren := {
 sizeBuilder := by kernel_rfl
 liesBuilder := by kernel_rfl
 t5 := Tryz.underlying5
 a5 := Tryz.isAgg5
 z5 := Tryz.sizeOf5
 v5 := Tryz.zeroValue5
 infoByte := by kernel_rfl
 cellsByte := by kernel_rfl
 sizeByte := by kernel_rfl
 neB5 := by decide }
open Go.RowKit in
theorem Tryz.strings_Join_none (a : Option Addr) (c : Nat) (sep : ByteArray) (w : World) :
  Calls Tryz.prog 56 #[.slice a 0 c, .string sep] w fun e w' => e = .returned (.string ⟨#[]⟩) ∧ w' = w := Any.strings_Join_none Tryz.lays156 Tryz.Builder_Extra_156 a c sep w
open Go.RowKit in
theorem Tryz.strings_Join (bk o c : Nat) (xs : List ByteArray) (sep : ByteArray) (w : World) (hcells : ∀ (j : Nat) x, xs[j]? = some x → w.cell? ⟨bk, o + j, none⟩ = some (.string x)) (hbk : bk < w.heap.size) (hN : xs.length ≤ 140737488355328) (hcap : xs.length ≤ c) (hlen : (Lib.join (xs.map (·.data.toList)) sep.data.toList).length ≤ 140737488355328) :
  Calls Tryz.prog 56 #[.slice (some ⟨bk, o, none⟩) xs.length c, .string sep] w fun e w' => e = .returned (.string ⟨(Lib.join (xs.map (·.data.toList)) sep.data.toList).toArray⟩) ∧ Below w.heap.size w w' := Any.strings_Join Tryz.lays156 Tryz.Builder_Extra_156 bk o c xs sep w hcells hbk hN hcap hlen
def Tryz.lays155_ren : Go.Shelf.Ren := ⟨fun | 155 => 74 | 154 => 89 | 138 => 103 | 165 => 75 | 143 => 104 | 166 => 76 | 197 => 105 | 169 => 77 | 195 => 125 | 218 => 126 | 240 => 90 | 241 => 91 | 219 => 127 | 260 => 128 | 276 => 106 | 277 => 107 | 217 => 124 | 225 => 138 | 224 => 139 | 267 => 140 | 266 => 137 | 314 => 145 | n => n, fun | 9 => 9 | 3 => 3 | 4 => 4 | 72 => 116 | 0 => 0 | 76 => 120 | 105 => 151 | 21 => 21 | 5 => 5 | 70 => 114 | 20 => 20 | 37 => 47 | 75 => 119 | 127 => 140 | 164 => 153 | 46 => 124 | 119 => 88 | 139 => 185 | 138 => 184 | 146 => 193 | 51 => 104 | 80 => 122 | n => n, fun | 1 => 5 | 3 => 8 | 4 => 9 | n => n⟩
theorem Tryz.lays155 : Go.Proofs.Lays.n155 Tryz.prog Tryz.lays155_ren := {
 mixed := by kernel_rfl
 f138 := Tryz.func103.trans (congrArg some (by kernel_rfl))
 f143 := Tryz.func104.trans (congrArg some (by kernel_rfl))
 f154 := Tryz.func89.trans (congrArg some (by kernel_rfl))
 f155 := Tryz.func74.trans (congrArg some (by kernel_rfl))
 f165 := Tryz.func75.trans (congrArg some (by kernel_rfl))
 f166 := Tryz.func76.trans (congrArg some (by kernel_rfl))
 f169 := Tryz.func77.trans (congrArg some (by kernel_rfl))
 f195 := Tryz.func125.trans (congrArg some (by kernel_rfl))
 f197 := Tryz.func105.trans (congrArg some (by kernel_rfl))
 f217 := Tryz.func124.trans (congrArg some (by kernel_rfl))
 f218 := Tryz.func126.trans (congrArg some (by kernel_rfl))
 f219 := Tryz.func127.trans (congrArg some (by kernel_rfl))
 f224 := Tryz.func139.trans (congrArg some (by kernel_rfl))
 f225 := Tryz.func138.trans (congrArg some (by kernel_rfl))
 f240 := Tryz.func90.trans (congrArg some (by kernel_rfl))
 f241 := Tryz.func91.trans (congrArg some (by kernel_rfl))
 f260 := Tryz.func128.trans (congrArg some (by kernel_rfl))
 f266 := Tryz.func137.trans (congrArg some (by kernel_rfl))
 f267 := Tryz.func140.trans (congrArg some (by kernel_rfl))
 f276 := Tryz.func106.trans (congrArg some (by kernel_rfl))
 f277 := Tryz.func107.trans (congrArg some (by kernel_rfl))
 f314 := Tryz.func145.trans (congrArg some (by kernel_rfl))
 t0 := Tryz.underlying0
 a0 := Tryz.isAgg0
 z0 := Tryz.sizeOf0
 v0 := Tryz.zeroValue0
 t3 := Tryz.underlying3
 a3 := Tryz.isAgg3
 z3 := Tryz.sizeOf3
 v3 := Tryz.zeroValue3
 t4 := Tryz.underlying4
 a4 := Tryz.isAgg4
 z4 := Tryz.sizeOf4
 v4 := Tryz.zeroValue4
 t5 := Tryz.underlying5
 a5 := Tryz.isAgg5
 z5 := Tryz.sizeOf5
 v5 := Tryz.zeroValue5
 t9 := Tryz.underlying9
 a9 := Tryz.isAgg9
 z9 := Tryz.sizeOf9
 v9 := Tryz.zeroValue9
 t20 := Tryz.underlying20
 a20 := Tryz.isAgg20
 z20 := Tryz.sizeOf20
 v20 := Tryz.zeroValue20
 t21 := Tryz.underlying21
 a21 := Tryz.isAgg21
 z21 := Tryz.sizeOf21
 v21 := Tryz.zeroValue21
 t37 := Tryz.underlying47
 a37 := Tryz.isAgg47
 z37 := Tryz.sizeOf47
 v37 := Tryz.zeroValue47
 t46 := Tryz.underlying124
 a46 := Tryz.isAgg124
 z46 := Tryz.sizeOf124
 v46 := Tryz.zeroValue124
 t51 := Tryz.underlying104
 a51 := Tryz.isAgg104
 z51 := Tryz.sizeOf104
 v51 := Tryz.zeroValue104
 t70 := Tryz.underlying114
 a70 := Tryz.isAgg114
 z70 := Tryz.sizeOf114
 v70 := Tryz.zeroValue114
 t72 := Tryz.underlying116
 a72 := Tryz.isAgg116
 z72 := Tryz.sizeOf116
 v72 := Tryz.zeroValue116
 t75 := Tryz.underlying119
 a75 := Tryz.isAgg119
 z75 := Tryz.sizeOf119
 v75 := Tryz.zeroValue119
 t76 := Tryz.underlying120
 a76 := Tryz.isAgg120
 z76 := Tryz.sizeOf120
 v76 := Tryz.zeroValue120
 t105 := Tryz.underlying151
 a105 := Tryz.isAgg151
 z105 := Tryz.sizeOf151
 v105 := Tryz.zeroValue151
 t119 := Tryz.underlying88
 a119 := Tryz.isAgg88
 z119 := Tryz.sizeOf88
 t127 := Tryz.underlying140
 a127 := Tryz.isAgg140
 z127 := Tryz.sizeOf140
 v127 := Tryz.zeroValue140
 t138 := Tryz.underlying184
 a138 := Tryz.isAgg184
 z138 := Tryz.sizeOf184
 v138 := Tryz.zeroValue184
 t139 := Tryz.underlying185
 a139 := Tryz.isAgg185
 z139 := Tryz.sizeOf185
 v139 := Tryz.zeroValue185
 t146 := Tryz.underlying193
 a146 := Tryz.isAgg193
 z146 := Tryz.sizeOf193
 v146 := Tryz.zeroValue193
 t164 := Tryz.underlying153
 a164 := Tryz.isAgg153
 z164 := Tryz.sizeOf153
 v164 := Tryz.zeroValue153
 g1 := by kernel_rfl
 g3 := by kernel_rfl
 g4 := by kernel_rfl }
theorem Tryz.Builder_Extra_155 : Builder.Extra Tryz.prog Tryz.lays155_ren := {
 sizeBuilder := by kernel_rfl
 liesBuilder := by kernel_rfl
 t5 := Tryz.underlying5
 a5 := Tryz.isAgg5
 z5 := Tryz.sizeOf5
 v5 := Tryz.zeroValue5
 infoByte := by kernel_rfl
 cellsByte := by kernel_rfl
 sizeByte := by kernel_rfl
 neB5 := by decide }
open Go.RowKit Go.Lib in
theorem Tryz.strings_ReplaceAll (s old new : ByteArray) (m : Int) (w : World) (hs : s.size < 4294967281) (hm : w.cell? ⟨5, 0, none⟩ = some (.int .i64 m)) (h1 : 1 ≤ old.size) (hlen : s.size + Lib.countB s old * new.size ≤ 140737488355328) :
  Calls Tryz.prog 74 #[.string s, .string old, .string new] w fun e w' =>
   e = .returned (.string ⟨(Lib.replaceAll s.data.toList old.data.toList new.data.toList).toArray⟩) ∧ Below w.heap.size w w' := Any.strings_ReplaceAll Tryz.lays155 Tryz.Builder_Extra_155 s old new m w hs hm h1 hlen
end Go.Proofs
