/-
  What strconv.Itoa and strconv.Atoi compute: the library's contracts at this program. No conditions beyond the lemmas' own hypotheses.
-/
import Derived.Shelf.LaysM
import Derived.Shelf.Strconv.Itoa3
import Derived.Shelf.Strconv.Atoi
import Derived.Test.YtcbagnlidecmkaaGreatDoorProg
set_option linter.unusedSimpArgs false
set_option linter.unnecessarySimpa false
set_option linter.unusedVariables false
set_option linter.constructorNameAsVariable false

/-
 DERIVED: THE SHELF's CONTRACTS AT THIS DUMP, IN PLAIN WORDS (tools/lay-plain.mjs out of 'TryzCut.lean', which tools/lay-shelf.mjs wrote): THE SAME DECLARATIONS UNDER THE SAME NAMES: 'import', 'namespace', 'open', 'def', 'theorem' AND NOTHING ELSE: no command of the shelf's: FOR A HAND-IN. Each laying: the table of numbers ('.._ren') and one theorem, a field a fact of the dump's own or the kernel's comparison; each contract: ONE APPLICATION.
-/
namespace Go.Proofs
open Go.Shelf
def Tryz.lays172_ren : Go.Shelf.Ren := ⟨fun | 172 => 84 | 244 => 98 | 245 => 99 | 247 => 119 | 279 => 120 | 280 => 121 | 281 => 122 | 282 => 123 | 287 => 134 | 316 => 135 | 171 => 31 | 205 => 136 | 321 => 143 | 322 => 144 | 243 => 57 | 246 => 78 | 283 => 92 | 284 => 93 | 285 => 94 | 286 => 95 | 129 => 96 | 317 => 108 | 318 => 109 | 319 => 110 | 320 => 111 | 337 => 129 | 338 => 130 | n => n, fun | 9 => 9 | 3 => 3 | 75 => 119 | 76 => 120 | 4 => 4 | 5 => 5 | 167 => 169 | 37 => 47 | 0 => 0 | 85 => 170 | 2 => 2 | 168 => 172 | 53 => 79 | 175 => 178 | 46 => 124 | 210 => 181 | 127 => 140 | 145 => 192 | 143 => 190 | 21 => 21 | 171 => 141 | 173 => 143 | 212 => 158 | 51 => 104 | 20 => 20 | 213 => 159 | 232 => 186 | 233 => 187 | 80 => 122 | n => n, fun | 15 => 6 | 16 => 7 | 17 => 4 | 18 => 10 | 19 => 11 | n => n⟩
theorem Tryz.lays172 : Go.Proofs.Lays.n172 Tryz.prog Tryz.lays172_ren := {
 mixed := by kernel_rfl
 f129 := Tryz.func96.trans (congrArg some (by kernel_rfl))
 f171 := Tryz.func31.trans (congrArg some (by kernel_rfl))
 f172 := Tryz.func84.trans (congrArg some (by kernel_rfl))
 f205 := Tryz.func136.trans (congrArg some (by kernel_rfl))
 f243 := Tryz.func57.trans (congrArg some (by kernel_rfl))
 f244 := Tryz.func98.trans (congrArg some (by kernel_rfl))
 f245 := Tryz.func99.trans (congrArg some (by kernel_rfl))
 f246 := Tryz.func78.trans (congrArg some (by kernel_rfl))
 f247 := Tryz.func119.trans (congrArg some (by kernel_rfl))
 f279 := Tryz.func120.trans (congrArg some (by kernel_rfl))
 f280 := Tryz.func121.trans (congrArg some (by kernel_rfl))
 f281 := Tryz.func122.trans (congrArg some (by kernel_rfl))
 f282 := Tryz.func123.trans (congrArg some (by kernel_rfl))
 f283 := Tryz.func92.trans (congrArg some (by kernel_rfl))
 f284 := Tryz.func93.trans (congrArg some (by kernel_rfl))
 f285 := Tryz.func94.trans (congrArg some (by kernel_rfl))
 f286 := Tryz.func95.trans (congrArg some (by kernel_rfl))
 f287 := Tryz.func134.trans (congrArg some (by kernel_rfl))
 f316 := Tryz.func135.trans (congrArg some (by kernel_rfl))
 f317 := Tryz.func108.trans (congrArg some (by kernel_rfl))
 f318 := Tryz.func109.trans (congrArg some (by kernel_rfl))
 f319 := Tryz.func110.trans (congrArg some (by kernel_rfl))
 f320 := Tryz.func111.trans (congrArg some (by kernel_rfl))
 f321 := Tryz.func143.trans (congrArg some (by kernel_rfl))
 f322 := Tryz.func144.trans (congrArg some (by kernel_rfl))
 f337 := Tryz.func129.trans (congrArg some (by kernel_rfl))
 f338 := Tryz.func130.trans (congrArg some (by kernel_rfl))
 t0 := Tryz.underlying0
 a0 := Tryz.isAgg0
 z0 := Tryz.sizeOf0
 v0 := Tryz.zeroValue0
 t2 := Tryz.underlying2
 a2 := Tryz.isAgg2
 z2 := Tryz.sizeOf2
 v2 := Tryz.zeroValue2
 t3 := Tryz.underlying3
 a3 := Tryz.isAgg3
 z3 := Tryz.sizeOf3
 v3 := Tryz.zeroValue3
 t4 := Tryz.underlying4
 a4 := Tryz.isAgg4
 z4 := Tryz.sizeOf4
 v4 := Tryz.zeroValue4
 t5 := Tryz.underlying5
 a5 := Tryz.isAgg5
 z5 := Tryz.sizeOf5
 v5 := Tryz.zeroValue5
 t9 := Tryz.underlying9
 a9 := Tryz.isAgg9
 z9 := Tryz.sizeOf9
 v9 := Tryz.zeroValue9
 t20 := Tryz.underlying20
 a20 := Tryz.isAgg20
 z20 := Tryz.sizeOf20
 v20 := Tryz.zeroValue20
 t21 := Tryz.underlying21
 a21 := Tryz.isAgg21
 z21 := Tryz.sizeOf21
 v21 := Tryz.zeroValue21
 t37 := Tryz.underlying47
 a37 := Tryz.isAgg47
 z37 := Tryz.sizeOf47
 v37 := Tryz.zeroValue47
 t46 := Tryz.underlying124
 a46 := Tryz.isAgg124
 z46 := Tryz.sizeOf124
 v46 := Tryz.zeroValue124
 t51 := Tryz.underlying104
 a51 := Tryz.isAgg104
 z51 := Tryz.sizeOf104
 v51 := Tryz.zeroValue104
 t53 := Tryz.underlying79
 a53 := Tryz.isAgg79
 z53 := Tryz.sizeOf79
 v53 := Tryz.zeroValue79
 t75 := Tryz.underlying119
 a75 := Tryz.isAgg119
 z75 := Tryz.sizeOf119
 v75 := Tryz.zeroValue119
 t76 := Tryz.underlying120
 a76 := Tryz.isAgg120
 z76 := Tryz.sizeOf120
 v76 := Tryz.zeroValue120
 t85 := Tryz.underlying170
 a85 := Tryz.isAgg170
 z85 := Tryz.sizeOf170
 v85 := Tryz.zeroValue170
 t127 := Tryz.underlying140
 a127 := Tryz.isAgg140
 z127 := Tryz.sizeOf140
 v127 := Tryz.zeroValue140
 t143 := Tryz.underlying190
 a143 := Tryz.isAgg190
 z143 := Tryz.sizeOf190
 v143 := Tryz.zeroValue190
 t145 := Tryz.underlying192
 a145 := Tryz.isAgg192
 z145 := Tryz.sizeOf192
 v145 := Tryz.zeroValue192
 t167 := Tryz.underlying169
 a167 := Tryz.isAgg169
 z167 := Tryz.sizeOf169
 v167 := Tryz.zeroValue169
 t168 := Tryz.underlying172
 a168 := Tryz.isAgg172
 z168 := Tryz.sizeOf172
 v168 := Tryz.zeroValue172
 t171 := Tryz.underlying141
 a171 := Tryz.isAgg141
 z171 := Tryz.sizeOf141
 v171 := Tryz.zeroValue141
 t173 := Tryz.underlying143
 a173 := Tryz.isAgg143
 z173 := Tryz.sizeOf143
 v173 := Tryz.zeroValue143
 t175 := Tryz.underlying178
 a175 := Tryz.isAgg178
 z175 := Tryz.sizeOf178
 v175 := Tryz.zeroValue178
 t210 := Tryz.underlying181
 a210 := Tryz.isAgg181
 z210 := Tryz.sizeOf181
 v210 := Tryz.zeroValue181
 t212 := Tryz.underlying158
 a212 := Tryz.isAgg158
 z212 := Tryz.sizeOf158
 v212 := Tryz.zeroValue158
 t213 := Tryz.underlying159
 a213 := Tryz.isAgg159
 z213 := Tryz.sizeOf159
 t232 := Tryz.underlying186
 a232 := Tryz.isAgg186
 z232 := Tryz.sizeOf186
 v232 := Tryz.zeroValue186
 t233 := Tryz.underlying187
 a233 := Tryz.isAgg187
 z233 := Tryz.sizeOf187
 v233 := Tryz.zeroValue187
 g15 := by kernel_rfl
 g16 := by kernel_rfl
 g17 := by kernel_rfl
 g18 := by kernel_rfl
 g19 := by kernel_rfl }
open Go.RowKit in
theorem Tryz.strconv_Atoi (s : ByteArray) (n : Int) (hl : s.size ≤ 18) (h : Lib.atoi s.data.toList = some n) (w : World) :
  Calls Tryz.prog 84 #[.string s] w fun e w' => e = .returned (.tuple #[.int .i64 n, .nilIface]) ∧ ∃ t, w' = Lib.bytesWorld w 5 t := Any.strconv_Atoi Tryz.lays172 s n hl h w
end Go.Proofs
