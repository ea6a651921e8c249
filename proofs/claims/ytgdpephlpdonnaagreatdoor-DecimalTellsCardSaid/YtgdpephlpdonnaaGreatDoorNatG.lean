/-
  What strconv's functions at base ten and the iterator of slices.Backward compute. No conditions beyond the lemmas' own hypotheses.
-/
import Derived.Shelf.Strconv.Itoa0
import Derived.Shelf.Strconv.Itoa1
import Derived.Shelf.LaysM
import Derived.Shelf.Strconv.Itoa2
import Derived.Test.YtgdpephlpdonnaaGreatDoorProg
import Derived.Shelf.Pu.ParseUintPublic10
import Derived.Test.YtgdpephlpdonnaaGreatDoorNatF
import Derived.Test.YtgdpephlpdonnaaGreatDoorNatD
import Derived.Shelf.Strconv.Itoa3
import Derived.Lib.Walk
import Derived.Lib.ItoaMem
import Derived.WalkKit
import Derived.BigCall
import Derived.BigGuard
import Derived.Test.YtgdpephlpdonnaaGreatDoorAbsFour
import Derived.RangeFuncBox
import Derived.Shelf.Abstract
import Derived.OwnWalkIn
import Derived.TacticsInMore
import Derived.LoopNIn
import Derived.LoopIn
set_option linter.unusedSimpArgs false
set_option linter.unusedVariables false
set_option linter.constructorNameAsVariable false

/-
  DERIVED: THE SHELF's CONTRACTS AT THIS DUMP, IN PLAIN WORDS (tools/lay-plain.mjs out of 'TryzShelf.lean', which tools/lay-shelf.mjs wrote): THE SAME DECLARATIONS UNDER THE SAME NAMES: 'import', 'namespace', 'open', 'def', 'theorem' AND NOTHING ELSE: no command of the shelf's: FOR A HAND-IN. Each laying: the table of numbers ('.._ren') and one theorem, a field a fact of the dump's own or the kernel's comparison; each contract: ONE APPLICATION.
-/
namespace Go.Proofs
open Go.Shelf
def Tryz.lays283_ren : Go.Shelf.Ren := ⟨fun | 283 => 131 | n => n, fun | 3 => 3 | 9 => 9 | 4 => 4 | n => n, fun | n => n⟩
theorem Tryz.lays283 : Go.Proofs.Lays.n283 Tryz.prog Tryz.lays283_ren := {
  mixed := by kernel_rfl
  f283 := Tryz.func131.trans (congrArg some (by kernel_rfl))
  t3 := Tryz.underlying3
  a3 := Tryz.isAgg3
  z3 := Tryz.sizeOf3
  v3 := Tryz.zeroValue3
  t4 := Tryz.underlying4
  a4 := Tryz.isAgg4
  z4 := Tryz.sizeOf4
  v4 := Tryz.zeroValue4
  t9 := Tryz.underlying9
  a9 := Tryz.isAgg9
  z9 := Tryz.sizeOf9
  v9 := Tryz.zeroValue9 }
def Tryz.lays285_ren : Go.Shelf.Ren := ⟨fun | 285 => 133 | n => n, fun | 37 => 104 | 53 => 40 | 3 => 3 | 4 => 4 | 51 => 141 | 9 => 9 | 5 => 5 | 0 => 0 | n => n, fun | n => n⟩
theorem Tryz.lays285 : Go.Proofs.Lays.n285 Tryz.prog Tryz.lays285_ren := {
  mixed := by kernel_rfl
  f285 := Tryz.func133.trans (congrArg some (by kernel_rfl))
  t0 := Tryz.underlying0
  a0 := Tryz.isAgg0
  z0 := Tryz.sizeOf0
  v0 := Tryz.zeroValue0
  t3 := Tryz.underlying3
  a3 := Tryz.isAgg3
  z3 := Tryz.sizeOf3
  v3 := Tryz.zeroValue3
  t4 := Tryz.underlying4
  a4 := Tryz.isAgg4
  z4 := Tryz.sizeOf4
  v4 := Tryz.zeroValue4
  t5 := Tryz.underlying5
  a5 := Tryz.isAgg5
  z5 := Tryz.sizeOf5
  v5 := Tryz.zeroValue5
  t9 := Tryz.underlying9
  a9 := Tryz.isAgg9
  z9 := Tryz.sizeOf9
  v9 := Tryz.zeroValue9
  t37 := Tryz.underlying104
  a37 := Tryz.isAgg104
  z37 := Tryz.sizeOf104
  v37 := Tryz.zeroValue104
  t51 := Tryz.underlying141
  a51 := Tryz.isAgg141
  z51 := Tryz.sizeOf141
  v51 := Tryz.zeroValue141
  t53 := Tryz.underlying40
  a53 := Tryz.isAgg40
  z53 := Tryz.sizeOf40
  v53 := Tryz.zeroValue40 }
end Go.Proofs

/-
  DERIVED: THE SHELF's CONTRACTS AT THIS DUMP, IN PLAIN WORDS (tools/lay-plain.mjs out of 'AbsNpu0.lean', which tools/lay-shelf.mjs wrote): THE SAME DECLARATIONS UNDER THE SAME NAMES: 'import', 'namespace', 'open', 'def', 'theorem' AND NOTHING ELSE: no command of the shelf's: FOR A HAND-IN. Each laying: the table of numbers ('.._ren') and one theorem, a field a fact of the dump's own or the kernel's comparison; each contract: ONE APPLICATION.
-/
namespace Go.Proofs
open Go.Shelf
def Tryz.laysPu14_ren : Go.Shelf.Ren := ⟨fun | 14 => 66 | 16 => 102 | 17 => 103 | 19 => 122 | 20 => 123 | 21 => 124 | 22 => 125 | 23 => 126 | 24 => 127 | 25 => 141 | 27 => 143 | 26 => 142 | 28 => 149 | 29 => 152 | 30 => 131 | 31 => 132 | 32 => 133 | 33 => 134 | 35 => 108 | 34 => 145 | 36 => 146 | 37 => 147 | 38 => 148 | 39 => 150 | 40 => 151 | n => n, fun | 9 => 9 | 3 => 3 | 22 => 40 | 24 => 82 | 25 => 83 | 4 => 4 | 34 => 136 | 5 => 5 | 36 => 115 | 37 => 104 | 0 => 0 | 39 => 138 | 21 => 21 | 44 => 155 | 47 => 130 | 50 => 168 | 48 => 166 | 2 => 2 | 52 => 145 | 55 => 147 | 59 => 159 | 60 => 141 | 20 => 20 | 61 => 160 | 65 => 171 | 66 => 172 | 67 => 112 | n => n, fun | 0 => 3 | 1 => 4 | 2 => 5 | 3 => 8 | 4 => 9 | n => n⟩
theorem Tryz.laysPu14 : Go.Proofs.LaysPu.n14 Tryz.prog Tryz.laysPu14_ren := {
  mixed := by kernel_rfl
  f14 := Tryz.func66.trans (congrArg some (by kernel_rfl))
  f16 := Tryz.func102.trans (congrArg some (by kernel_rfl))
  f17 := Tryz.func103.trans (congrArg some (by kernel_rfl))
  f19 := Tryz.func122.trans (congrArg some (by kernel_rfl))
  f20 := Tryz.func123.trans (congrArg some (by kernel_rfl))
  f21 := Tryz.func124.trans (congrArg some (by kernel_rfl))
  f22 := Tryz.func125.trans (congrArg some (by kernel_rfl))
  f23 := Tryz.func126.trans (congrArg some (by kernel_rfl))
  f24 := Tryz.func127.trans (congrArg some (by kernel_rfl))
  f25 := Tryz.func141.trans (congrArg some (by kernel_rfl))
  f26 := Tryz.func142.trans (congrArg some (by kernel_rfl))
  f27 := Tryz.func143.trans (congrArg some (by kernel_rfl))
  f28 := Tryz.func149.trans (congrArg some (by kernel_rfl))
  f29 := Tryz.func152.trans (congrArg some (by kernel_rfl))
  f30 := Tryz.func131.trans (congrArg some (by kernel_rfl))
  f31 := Tryz.func132.trans (congrArg some (by kernel_rfl))
  f32 := Tryz.func133.trans (congrArg some (by kernel_rfl))
  f33 := Tryz.func134.trans (congrArg some (by kernel_rfl))
  f34 := Tryz.func145.trans (congrArg some (by kernel_rfl))
  f35 := Tryz.func108.trans (congrArg some (by kernel_rfl))
  f36 := Tryz.func146.trans (congrArg some (by kernel_rfl))
  f37 := Tryz.func147.trans (congrArg some (by kernel_rfl))
  f38 := Tryz.func148.trans (congrArg some (by kernel_rfl))
  f39 := Tryz.func150.trans (congrArg some (by kernel_rfl))
  f40 := Tryz.func151.trans (congrArg some (by kernel_rfl))
  t0 := Tryz.underlying0
  a0 := Tryz.isAgg0
  z0 := Tryz.sizeOf0
  v0 := Tryz.zeroValue0
  i0 := by kernel_rfl
  t2 := Tryz.underlying2
  a2 := Tryz.isAgg2
  z2 := Tryz.sizeOf2
  v2 := Tryz.zeroValue2
  i2 := by kernel_rfl
  t3 := Tryz.underlying3
  a3 := Tryz.isAgg3
  z3 := Tryz.sizeOf3
  v3 := Tryz.zeroValue3
  i3 := by kernel_rfl
  t4 := Tryz.underlying4
  a4 := Tryz.isAgg4
  z4 := Tryz.sizeOf4
  v4 := Tryz.zeroValue4
  i4 := by kernel_rfl
  t5 := Tryz.underlying5
  a5 := Tryz.isAgg5
  z5 := Tryz.sizeOf5
  v5 := Tryz.zeroValue5
  i5 := by kernel_rfl
  t9 := Tryz.underlying9
  a9 := Tryz.isAgg9
  z9 := Tryz.sizeOf9
  v9 := Tryz.zeroValue9
  i9 := by kernel_rfl
  t20 := Tryz.underlying20
  a20 := Tryz.isAgg20
  z20 := Tryz.sizeOf20
  v20 := Tryz.zeroValue20
  i20 := by kernel_rfl
  t21 := Tryz.underlying21
  a21 := Tryz.isAgg21
  z21 := Tryz.sizeOf21
  v21 := Tryz.zeroValue21
  i21 := by kernel_rfl
  t22 := Tryz.underlying40
  a22 := Tryz.isAgg40
  z22 := Tryz.sizeOf40
  v22 := Tryz.zeroValue40
  i22 := by kernel_rfl
  t24 := Tryz.underlying82
  a24 := Tryz.isAgg82
  z24 := Tryz.sizeOf82
  v24 := Tryz.zeroValue82
  i24 := by kernel_rfl
  t25 := Tryz.underlying83
  a25 := Tryz.isAgg83
  z25 := Tryz.sizeOf83
  v25 := Tryz.zeroValue83
  i25 := by kernel_rfl
  t34 := Tryz.underlying136
  a34 := Tryz.isAgg136
  z34 := Tryz.sizeOf136
  v34 := Tryz.zeroValue136
  i34 := by kernel_rfl
  c34 := by kernel_rfl
  t36 := Tryz.underlying115
  a36 := Tryz.isAgg115
  z36 := Tryz.sizeOf115
  v36 := Tryz.zeroValue115
  i36 := by kernel_rfl
  t37 := Tryz.underlying104
  a37 := Tryz.isAgg104
  z37 := Tryz.sizeOf104
  v37 := Tryz.zeroValue104
  i37 := by kernel_rfl
  t39 := Tryz.underlying138
  a39 := Tryz.isAgg138
  z39 := Tryz.sizeOf138
  v39 := Tryz.zeroValue138
  i39 := by kernel_rfl
  t44 := Tryz.underlying155
  a44 := Tryz.isAgg155
  z44 := Tryz.sizeOf155
  v44 := Tryz.zeroValue155
  i44 := by kernel_rfl
  t47 := Tryz.underlying130
  a47 := Tryz.isAgg130
  z47 := Tryz.sizeOf130
  v47 := Tryz.zeroValue130
  i47 := by kernel_rfl
  t48 := Tryz.underlying166
  a48 := Tryz.isAgg166
  z48 := Tryz.sizeOf166
  v48 := Tryz.zeroValue166
  i48 := by kernel_rfl
  t50 := Tryz.underlying168
  a50 := Tryz.isAgg168
  z50 := Tryz.sizeOf168
  v50 := Tryz.zeroValue168
  i50 := by kernel_rfl
  t52 := Tryz.underlying145
  a52 := Tryz.isAgg145
  z52 := Tryz.sizeOf145
  v52 := Tryz.zeroValue145
  i52 := by kernel_rfl
  t55 := Tryz.underlying147
  a55 := Tryz.isAgg147
  z55 := Tryz.sizeOf147
  v55 := Tryz.zeroValue147
  i55 := by kernel_rfl
  t59 := Tryz.underlying159
  a59 := Tryz.isAgg159
  z59 := Tryz.sizeOf159
  v59 := Tryz.zeroValue159
  i59 := by kernel_rfl
  t60 := Tryz.underlying141
  a60 := Tryz.isAgg141
  z60 := Tryz.sizeOf141
  v60 := Tryz.zeroValue141
  i60 := by kernel_rfl
  t61 := Tryz.underlying160
  a61 := Tryz.isAgg160
  z61 := Tryz.sizeOf160
  t65 := Tryz.underlying171
  a65 := Tryz.isAgg171
  z65 := Tryz.sizeOf171
  v65 := Tryz.zeroValue171
  i65 := by kernel_rfl
  t66 := Tryz.underlying172
  a66 := Tryz.isAgg172
  z66 := Tryz.sizeOf172
  v66 := Tryz.zeroValue172
  i66 := by kernel_rfl
  t67 := Tryz.underlying112
  a67 := Tryz.isAgg112
  z67 := Tryz.sizeOf112
  v67 := Tryz.zeroValue112
  i67 := by kernel_rfl
  g0 := by kernel_rfl
  m0 := by kernel_rfl
  g1 := by kernel_rfl
  m1 := by kernel_rfl
  g2 := by kernel_rfl
  m2 := by kernel_rfl
  g3 := by kernel_rfl
  m3 := by kernel_rfl
  g4 := by kernel_rfl
  m4 := by kernel_rfl }
open Go.RowKit in
/-- strconv.ParseUint(s, 10, 64), AT EVERY STRING THAT SPELLS A uint64 ('Lib.parseUintB 64 s.data.toList = .ok u'): u, AND NO ERROR. (LAID: no walk: one application.) -/
theorem Tryz.strconv_ParseUint_10_at64_ok (s : ByteArray) (hmax : s.size ≤ 9223372036854775806) (u : Nat) (h : Lib.parseUintB 64 s.data.toList = .ok u) (w : World) :
    Calls Tryz.prog 66 #[.string s, .int .i64 10, .int .i64 64] w fun e w' => e = .returned (.tuple #[.int .u64 u, .nilIface]) ∧ (w' = w ∨ w' = Lib.bytesWorld w 5 s) := Any.strconv_ParseUint_10_at64_ok Tryz.laysPu14 s hmax u h w
end Go.Proofs

/-
  internal/strconv: how many digits; a number's decimal numeral.
-/
namespace Go.Proofs.YtgdpephlpdonnaaGreatDoor
open Go Go.Abs Go.Limbs
variable {base : Prot}
set_option maxRecDepth 20000
def pow10Cells : List PVal := (List.range 20).map fun i => .int .u64 ((10 ^ i : Nat) : Int)
/-- The table of powers of ten does not change. -/
def base2 : Prot := fun b o => if b = 5 ∧ o < 20 then some (.int .u64 ((10 ^ o : Nat) : Int)) else none
def gl2 : Nat → AVal := fun g => if g = 5 then .p (.cptr pow10Cells) else .junk
theorem pow10_len : pow10Cells.length = 20 := by simp [pow10Cells]
theorem pow10_get {i : Nat} (h : i < 20) : pow10Cells[i]? = some (.int .u64 ((10 ^ i : Nat) : Int)) := by
  simp only [pow10Cells, List.getElem?_map]
  rw [List.getElem?_range h]
  rfl
theorem glob2 : GlobOk base2 gl2 := by
  intro g c h
  unfold gl2
  split
  case isFalse => exact .junk _
  rename_i e
  subst e
  refine .p _ _ (.cptr pow10Cells 5 0 (fun j => .int .u64 ((10 ^ j : Nat) : Int)) (fun j hj => ?_) (fun j x hx => ?_) (fun x hx => ?_))
  · exact h _ _ _ (by rw [pow10_len] at hj; simp [base2, hj])
  · have hj : j < 20 := by rw [← pow10_len]; exact (List.getElem?_eq_some_iff.1 hx).1
    rw [pow10_get hj] at hx
    cases hx
    exact .int _ _
  · simp only [pow10Cells, List.mem_map] at hx
    obtain ⟨y, _, rfl⟩ := hx
    rfl
def lfND : LFunc := ⟨15, [(.slot 2)], (
  .seq (
   .region [
     ⟨(some 2), none, .mov (.cst (.p (.int .i64 0)))⟩]) (
   .seq (
    .region [
      ⟨(some 4), none, .mov (.tmp 0)⟩,
      ⟨(some 5), none, .call 108 [(.tmp 4)]⟩,
      ⟨(some 6), none, .call 145 [(.tmp 5)]⟩,
      ⟨(some 3), none, .mov (.tmp 6)⟩]) (
    .seq (
     .region [
       ⟨(some 7), none, .mov (.tmp 3)⟩,
       ⟨(some 8), none, .mov (.tmp 0)⟩,
       ⟨(some 9), none, .mov (.tmp 3)⟩,
       ⟨(some 10), none, .iaadr 20 1 (.cst (.p (.cptr pow10Cells))) (.tmp 9)⟩,
       ⟨(some 11), none, .load 1 false (.tmp 10)⟩,
       ⟨(some 12), none, .bin .geq (.tmp 8) (.tmp 11)⟩,
       ⟨(some 13), none, .call 146 [(.tmp 12)]⟩,
       ⟨(some 14), none, .bin .add (.tmp 7) (.tmp 13)⟩,
       ⟨(some 2), none, .mov (.tmp 14)⟩]) (
     .ret))))⟩
theorem lowND : lowFunc Tryz.prog gl2 132 = some lfND := by kernel_rfl
section
attribute [local irreducible] vc
attribute [local simp] pureS touchV freezeL fuel shiftV u64
def sLog : List PVal → Option PVal
  | [.int .i64 x] => if 0 ≤ x ∧ x ≤ 64 then some (.int .i64 (Lib.l10 x.toNat : Nat)) else none
  | _ => none
theorem log_ok : FnOk Tryz.prog base 145 (pureS sLog) := by
  refine pure_of_vc hmix Tab.none_ok globNone low145 fun args z hs hf => ?_
  unfold sLog at hs
  split at hs
  case h_2 => cases hs
  rename_i x
  split at hs
  case isFalse => cases hs
  rename_i hx
  cases hs
  obtain ⟨x, rfl⟩ := Int.eq_ofNat_of_zero_le hx.1
  refine ⟨by simp [lf145], ?_⟩
  obtain ⟨p, hp⟩ : ∃ p, p = x * 78913 := ⟨_, rfl⟩
  have w1 : IntKind.i64.wrap ((x : Int) * 78913) = (p : Int) := by rw [IntWalk.i64_in _ (by omega)]; omega
  have w2 : shiftI .shr .i64 (p : Int) 18 = some (.int .i64 (Lib.l10 x : Nat)) := by
    have h : (p : Int).fdiv (2 ^ 18) = ((p / 2 ^ 18 : Nat) : Int) := fdiv_pow p 18
    show some (PVal.int .i64 ((p : Int).fdiv (2 ^ 18))) = _
    rw [h, hp]
    rfl
  simp [lf145, w1, w2]
def sBool2 : List PVal → Option PVal
  | [.bool b] => some (.int .i64 (if b then 1 else 0))
  | _ => none
theorem bool2_ok : FnOk Tryz.prog base 146 (pureS sBool2) := by
  refine pure_of_vc hmix Tab.none_ok globNone low146 fun args z hs hf => ?_
  unfold sBool2 at hs
  split at hs
  case h_2 => cases hs
  rename_i b
  cases hs
  refine ⟨by simp [lf146], ?_⟩
  cases b <;> simp [lf146]
def Tnd : Tab := ((Tab.none.with 108 (pureS sLen64)).with 145 (pureS sLog)).with 146 (pureS sBool2)
theorem Tnd_ok : TabOk Tryz.prog base Tnd := Tab.with_ok (Tab.with_ok (Tab.with_ok Tab.none_ok len64_ok) log_ok) bool2_ok
theorem Tnd_mu (f : FuncId) (a : List AVal) (H : Heap) : Tnd.mu f a H = none := (rfl)
theorem Tnd_fns : Tnd.fn 108 = pureS sLen64 ∧ Tnd.fn 145 = pureS sLog ∧ Tnd.fn 146 = pureS sBool2 := ⟨rfl, rfl, rfl⟩
theorem bitLen_size {u : Nat} (h1 : 1 ≤ u) (h2 : u < B) : Lib.bitLen u = size u := by
  obtain ⟨a, b, c⟩ := Lib.bitLenAux_bounds 64 u (by rw [pow64]; exact h2) (by omega)
  unfold Lib.bitLen
  obtain ⟨k, hk⟩ : ∃ k, Lib.bitLenAux 64 u = k + 1 := ⟨Lib.bitLenAux 64 u - 1, by omega⟩
  rw [hk] at b c ⊢
  exact (size_eq (by simpa using b) c).symm
def sND : List PVal → Option PVal
  | [.int .u64 u] => if 1 ≤ u ∧ u.toNat < B then some (.int .i64 (Lib.nDigits u.toNat : Nat)) else none
  | _ => none
theorem numDigits_ok : FnOk Tryz.prog base2 132 (pureS sND) := by
  refine pure_of_vc hmix Tnd_ok glob2 lowND fun args z hs hf => ?_
  unfold sND at hs
  split at hs
  case h_2 => cases hs
  rename_i u
  split at hs
  case isFalse => cases hs
  rename_i hu
  cases hs
  obtain ⟨u, rfl⟩ := Int.eq_ofNat_of_zero_le (a := u) (by omega)
  simp only [Int.toNat_natCast] at hu ⊢
  obtain ⟨h1, h2⟩ := hu
  refine ⟨by simp [lfND], ?_⟩
  obtain ⟨e1, e2⟩ := Lib.numDigits_eq u (by omega) h2
  rw [bitLen_size (by omega) h2] at e1 e2
  have hL := sLen64_nat h2
  have hsz := size64 h2
  have hl : sLog [.int .i64 (size u)] = some (.int .i64 (Lib.l10 (size u) : Nat)) := by
    show (if (0 : Int) ≤ size u ∧ (size u : Int) ≤ 64 then _ else none) = _
    rw [if_pos ⟨by omega, by omega⟩]
    rfl
  obtain ⟨t, ht⟩ : ∃ t, t = Lib.l10 (size u) := ⟨_, rfl⟩
  rw [← ht] at e1 e2 hl
  have hg := pow10_get (i := t) (by omega)
  obtain ⟨p, hp⟩ : ∃ p, p = 10 ^ t := ⟨_, rfl⟩
  rw [← hp] at hg e1
  have htI : (t : Int) < 20 := by omega
  have htN : t < 20 := by omega
  have htl : t ≤ pow10Cells.length := by rw [pow10_len]; omega
  have htl2 : t + 1 ≤ pow10Cells.length := by rw [pow10_len]; omega
  have hdr : (pow10Cells.drop t)[0]? = some (.int .u64 (p : Int)) := by rw [List.getElem?_drop]; exact hg
  obtain ⟨rest, hrest⟩ : ∃ r, pow10Cells.drop t = .int .u64 (p : Int) :: r := by
    cases hd : pow10Cells.drop t with
    | nil => rw [hd] at hdr; simp at hdr
    | cons y r => rw [hd] at hdr; simp at hdr; exact ⟨r, by rw [hdr]⟩
  by_cases hc : p ≤ u
  · rw [if_pos hc] at e1
    have w : IntKind.i64.wrap ((t : Int) + 1) = (Lib.nDigits u : Int) := by rw [IntWalk.i64_in _ (by omega)]; omega
    have hb : sBool2 [.bool true] = some (.int .i64 1) := rfl
    simp [lfND, hL, hl, htI, htN, htl, hrest, hc, hb, w, Tnd_mu, Tnd_fns]
  · rw [if_neg hc] at e1
    have w : IntKind.i64.wrap (t : Int) = (Lib.nDigits u : Int) := by rw [IntWalk.i64_in _ (by omega)]; omega
    have hb : sBool2 [.bool false] = some (.int .i64 0) := rfl
    simp [lfND, hL, hl, htI, htN, htl, hrest, hc, hb, w, Tnd_mu, Tnd_fns]
end
/-! ### From a contract to a call in any world, and back -/
theorem calls_of_fn {P : Program} {base : Prot} {f : FuncId} {s : List PVal → Option PVal} (h : FnOk P base f (pureS s)) {W : World} (hb : Prot.le base (allCells W)) {ps : List PVal} {vs : List Value} (hl : vs.length = ps.length)
    (hr : ∀ (j : Nat) x v, ps[j]? = some x → vs[j]? = some v → PRep (allCells W) x v) {x : PVal} (hs : s ps = some x) :
    Calls P f vs.toArray W fun e W' => ∃ v, e = .returned v ∧ PRep (allCells W') x v ∧ Go.RowKit.Below W.heap.size W W' := by
  have hI : Inv base ⟨[], allCells W⟩ [] W := ⟨hb, rfl, fun _ _ _ h => h, fun k e l h => by simp at h, fun k k' l l' g cp cp' h => by simp at h⟩
  refine (h.2 ps (.p x) [] (by simp [pureS, hs]) ⟨[], allCells W⟩ W vs hI (PRep.toRep hl hr)).mono fun e w' ⟨v, c', he, st, hI', rp⟩ => ?_
  cases rp with
  | p _ _ rp =>
    exact ⟨v, he, rp.mono hI'.prot, st.os, st.tape, st.output, st.size, fun k hk => st.blk k hk (fun ⟨j, l, cap, hl, _⟩ => by simp at hl)⟩
theorem fn_of_calls {P : Program} {base : Prot} {f : FuncId} (hg : goodFn P f = true) {s : List PVal → Option PVal}
    (h : ∀ ps x, s ps = some x → ∀ (c : Ctx) (w : World) (vs : List Value), Prot.le base (allCells w) → vs.length = ps.length → (∀ (j : Nat) y v, ps[j]? = some y → vs[j]? = some v → PRep c.prot y v) →
      Calls P f vs.toArray w fun e w' => ∃ v, e = .returned v ∧ PRep c.prot x v ∧ Go.RowKit.Below w.heap.size w w') : FnOk P base f (pureS s) := by
  refine ⟨hg, fun args r E hs c w vs hI hr => ?_⟩
  unfold pureS at hs
  cases hx : s args with
  | none => rw [hx] at hs; cases hs
  | some x =>
    rw [hx] at hs
    cases hs
    have h0 : c.locs = [] := List.length_eq_zero_iff.1 (by rw [hI.len]; rfl)
    have hbw : Prot.le base (allCells w) := fun b o v hv => hI.prot b o v (hI.base b o v hv)
    refine (h args x hx c w vs hbw (by simpa using hr.1) (fun j y v h1 h2 => ?_)).mono ?_
    · have := hr.2 j (.p y) v (by simp [h1]) h2
      cases this with
      | p _ _ hp => exact hp
    · rintro e w' ⟨v, rfl, hp, hbl⟩
      have hg : Grew w w' := ⟨hbl.os, hbl.tape, hbl.output, hbl.size, hbl.block⟩
      exact ⟨v, c, rfl, hg.step c, hI.grew hg, .p _ _ hp⟩
end Go.Proofs.YtgdpephlpdonnaaGreatDoor

/-
  internal/strconv.FormatUint at base 10: every number's decimal numeral.
-/
namespace Go.Proofs.YtgdpephlpdonnaaGreatDoor
open Go Go.Shelf Go.RowKit Go.Sort Go.Lib Go.Abs
theorem holds_heap {w w' : World} {blk off : Nat} {d : Array UInt8} (h : Holds (fun (b : UInt8) => Value.int .u8 (b.toNat : Int)) w blk off d) (e : w'.heap[blk]? = w.heap[blk]?) : Holds (fun (b : UInt8) => Value.int .u8 (b.toNat : Int)) w' blk off d := by
  intro j hj
  rw [World.cell?_of_block (a := ⟨blk, off + j, none⟩) e, World.frozen?_of_block (a := ⟨blk, off + j, none⟩) e]
  exact h j hj
theorem holds_zero0 (w : World) (T : TypeId) (nd : Nat) (hs : nd ≤ 24) : Holds (fun (b : UInt8) => Value.int .u8 (b.toNat : Int)) (w.alloc (.cells zeros24 T)) w.heap.size 0 (Array.replicate nd (0 : UInt8)) := fun j hj => by
  have hj' : j < nd := by simpa using hj
  refine ⟨?_, World.frozen?_alloc_new _ _ _ _⟩
  rw [World.cell?_alloc_new, zeros24_at _ (by omega), getElem!_pos _ j hj]
  simp
theorem below_digits {B : Nat} {w W : World} {g off n : Nat} {d : Array UInt8} (h : Below B w W) (hg : B ≤ g) : Below B w ((putRow (fun (b : UInt8) => Value.int .u8 (b.toNat : Int)) W g off d).drewN n) := by
  refine ⟨h.os, h.tape, h.output, ?_, fun k hk => ?_⟩
  · show w.heap.size ≤ (W.heap.modify g _).size
    rw [Array.size_modify]
    exact h.size
  · show (W.heap.modify g _)[k]? = _
    rw [Array.getElem?_modify, if_neg (by omega)]
    exact h.block k hk
set_option maxHeartbeats 6400000 in
set_option maxRecDepth 100000 in
theorem formatUint_walk (u : Nat) (hu64 : u < 18446744073709551616) (w : World) (hb : Prot.le base2 (allCells w)) :
    Calls Tryz.prog 110 #[.int .u64 u, .int .i64 10] w fun e w' => e = .returned (.string ⟨(Lib.decDigits u).toArray⟩) ∧ Below w.heap.size w w' := by
  by_cases hs : u < 100
  · have hw : IntKind.i64.wrap (u : Int) = u := IntWalk.i64_in _ (by omega)
    have hsI : (u : Int) < 100 := by omega
    go_enter Tryz.func110, Tryz.ntmps110
    go_wp2_with (go_at_call 131; refine (Any.internal_strconv_small Tryz.lays283 u hs _).mono ?_; rintro e w' ⟨rfl, rfl⟩)
    go_ret
    exact ⟨rfl, Below.refl _ _⟩
  · have hu1 : 1 ≤ u := by omega
    have hsI : ¬ (u : Int) < 100 := by omega
    have hnd20 : Lib.nDigits u ≤ 20 := by have := Lib.numDigits_eq u hu1 hu64; split at this <;> omega
    have hb3 : Lib.nDigits u ≤ 24 := by omega
    have hnd : ∀ W : World, Prot.le base2 (allCells W) → Calls Tryz.prog 132 #[.int .u64 u] W fun e W' => e = .returned (.int .i64 (Lib.nDigits u : Nat)) ∧ Below W.heap.size W W' := fun W hW => by
      refine (calls_of_fn numDigits_ok hW (ps := [.int .u64 u]) (vs := [.int .u64 u]) rfl (fun j x v h1 h2 => ?_) (x := .int .i64 (Lib.nDigits u : Nat)) ?_).mono ?_
      · cases j with
        | zero => simp at h1 h2; subst h1 h2; exact .int _ _
        | succ j => simp at h1
      · show (if (1 : Int) ≤ u ∧ (u : Int).toNat < Limbs.B then _ else none) = _
        rw [if_pos ⟨by omega, by rw [B_lit]; simpa using hu64⟩]
        rfl
      · rintro e W' ⟨v, rfl, hp, hbl⟩
        cases hp
        exact ⟨rfl, hbl⟩
    have hbA : Prot.le base2 (allCells (w.alloc (.cells Lib.zeros24 145))) := fun b o v hv => (World.cell?_of_block (a := ⟨b, o, none⟩) (heap_alloc_old w _ (World.block_lt_of_cell? w _ (hb b o v hv)))).trans (hb b o v hv)
    have hal : Tryz.prog.arrayLen 145 = 24 := by simp [Program.arrayLen, Tryz.underlying145]
    have hsl : ∀ W, (Instr.sliceAt 145 (.pointer (some ⟨w.heap.size, 0, none⟩)) none (some (.int .i64 (Lib.nDigits u : Int))) none).run Tryz.prog W = .ok (.slice (some ⟨w.heap.size, 0, none⟩) (Lib.nDigits u) 24) W := fun W => by
      rw [run_sliceAt_array_h W 145 ⟨w.heap.size, 0, none⟩ (by simp [Program.arrayLen, Program.elem, Tryz.underlying145]) .i64 (Lib.nDigits u : Int) (by omega) (by rw [hal]; omega)]
      go_simp
    clear hal
    have hnd1 := hnd _ hbA
    go_enter Tryz.func110, Tryz.ntmps110
    go_wp2_with (first | (go_at_call 132; refine hnd1.mono ?_; rintro e W1 ⟨rfl, hb1⟩))
    have hH0 := holds_heap (holds_zero0 w 145 (Lib.nDigits u) (by omega)) (hb1.block w.heap.size (by rw [World.size_alloc]; omega))
    have hfmt := Any.internal_strconv_formatBase10 Tryz.lays285 w.heap.size 0 24 u (Array.replicate (Lib.nDigits u) 0) W1 hH0 (by rw [Array.size_replicate]; exact Lib.lt_pow_nDigits u) hu64 (by rw [Array.size_replicate]; omega)
    rw [Array.size_replicate] at hfmt
    have HH0 := Lib.hid hH0
    have hb1' := Lib.hid hb1
    clear hH0 hb1 hnd1 hnd hbA
    go_at_call 133
    refine hfmt.mono ?_
    rintro e w' ⟨rfl, k, v', dk, rfl, hF⟩
    have hcv : (convert 104 9 (.slice (some ⟨w.heap.size, 0, none⟩) (Lib.nDigits u) 24)).run Tryz.prog ((putRow (fun (b : UInt8) => Value.int .u8 (b.toNat : Int)) W1 w.heap.size 0 dk).drewN k) = .ok (.string ⟨(Lib.decDigits u).toArray⟩) ((putRow (fun (b : UInt8) => Value.int .u8 (b.toNat : Int)) W1 w.heap.size 0 dk).drewN k) := by
      have h := run_convert_bytes_back (P := Tryz.prog) ((putRow (fun (b : UInt8) => Value.int .u8 (b.toNat : Int)) W1 w.heap.size 0 dk).drewN k) 104 9 5 ⟨w.heap.size, 0, none⟩ 24 (Lib.decDigits u) Tryz.underlying104 Tryz.underlying5 Tryz.underlying9 (fun j hj => by
        rw [Lib.row_is_numeral hF j hj, Lib.add_plain, World.cell?_drewN]
        exact cell?_putRow (fun (b : UInt8) => Value.int .u8 (b.toNat : Int)) _ w.heap.size 0 _ dk HH0.out (by rw [hF.size, Array.size_replicate]) j (by rw [hF.size]; rw [Lib.decDigits_length] at hj; exact hj))
      rw [Lib.decDigits_length] at h
      exact h
    go_wp2
    go_ret
    refine ⟨rfl, below_digits ?_ (Nat.le_refl _)⟩
    have h1 : Below w.heap.size w (w.alloc (.cells Lib.zeros24 145)) := (Below.refl _ w).alloc (Nat.le_refl _) _
    exact h1.trans (hb1'.out.mono (by rw [World.size_alloc]; omega))
section
set_option maxRecDepth 20000
attribute [local irreducible] vc
attribute [local simp] pureS touchV freezeL fuel shiftV u64
def sFormat : List PVal → Option PVal
  | [.int .u64 u, .int .i64 b] => if 0 ≤ u ∧ u.toNat < 18446744073709551616 ∧ b = 10 then some (.str (Lib.decDigits u.toNat)) else none
  | _ => none
theorem dec_len {u : Nat} (h : u < 18446744073709551616) : (Lib.decDigits u).length ≤ 20 := by
  rw [Lib.decDigits_length]
  by_cases h0 : u < 10
  · rw [Lib.nDigits_small h0]; omega
  · have := Lib.numDigits_eq u (by omega) h
    split at this <;> omega
theorem formatI_ok : FnOk Tryz.prog base2 110 (pureS sFormat) := by
  refine fn_of_calls (by kernel_rfl) fun ps x hs c w vs hb hl hr => ?_
  unfold sFormat at hs
  split at hs
  case h_2 => cases hs
  rename_i u b
  split at hs
  case isFalse => cases hs
  rename_i hc
  cases hs
  obtain ⟨u, rfl⟩ := Int.eq_ofNat_of_zero_le hc.1
  obtain ⟨-, hu, rfl⟩ := hc
  match vs, hl with
  | [v0, v1], _ =>
    have r0 := hr 0 _ v0 rfl rfl
    have r1 := hr 1 _ v1 rfl rfl
    cases r0
    cases r1
    simp only [Int.toNat_natCast] at hu ⊢
    refine (formatUint_walk u hu w hb).mono ?_
    rintro e w' ⟨rfl, hbl⟩
    exact ⟨_, rfl, .str _ (Nat.le_trans (dec_len hu) (by decide)), hbl⟩
def Tfm : Tab := Tab.none.with 110 (pureS sFormat)
theorem Tfm_ok : TabOk Tryz.prog base2 Tfm := Tab.with_ok Tab.none_ok formatI_ok
theorem Tfm_mu (f : FuncId) (a : List AVal) (H : Heap) : Tfm.mu f a H = none := (rfl)
theorem Tfm_fn : Tfm.fn 110 = pureS sFormat := (rfl)
theorem sFormat_nat {u : Nat} (h : u < Limbs.B) : sFormat [.int .u64 u, .int .i64 10] = some (.str (Lib.decDigits u)) := by
  show (if (0 : Int) ≤ u ∧ (u : Int).toNat < 18446744073709551616 ∧ (10 : Int) = 10 then _ else none) = _
  rw [if_pos ⟨by omega, by rw [B_lit] at h; simpa using h, rfl⟩]
  rfl
theorem format_ok : FnOk Tryz.prog base2 84 (pureS sFormat) := by
  refine pure_of_vc hmix Tfm_ok globNone low84 fun args z hs hf => ?_
  have hs' := hs
  unfold sFormat at hs
  split at hs
  case h_2 => cases hs
  refine ⟨by simp [lf84], ?_⟩
  simp [lf84, hs', Tfm_mu, Tfm_fn]
end
end Go.Proofs.YtgdpephlpdonnaaGreatDoor

/-
  slices.Backward: what its iterator hands out.
-/
namespace Go.Proofs.YtgdpephlpdonnaaGreatDoor
open Go Go.Abs Go.RowKit Go.Shelf
attribute [local go_sem] Oper.semAt_some
/-- What has come when k rounds are over. -/
def upto {α : Type} (f : Nat → α) (k : Nat) : List α := (List.range k).map f
theorem upto_succ {α : Type} (f : Nat → α) (k : Nat) : upto f (k + 1) = upto f k ++ [f k] := by simp [upto, List.range_succ]
theorem upto_length {α : Type} (f : Nat → α) (k : Nat) : (upto f k).length = k := by simp [upto]
set_option maxRecDepth 100000 in
set_option maxHeartbeats 2000000 in
theorem back_walk {α : Type} {encs : α → Array Value} (f : Nat → α) (vals : Nat → Value) (m l Bs b off len cap : Nat) (pr : Prot) (hlen : len ≤ 1000000000) (hen : ∀ k, k < len → encs (f k) = #[.int .i64 k, vals k])
    (hp : pr Bs 0 = some (.slice (some ⟨b, off, none⟩) len cap)) (hv : ∀ k, k < len → pr b (off + k) = some (vals k)) (J Jx : List α → World → Prop)
    (hY : ∀ pre x W, J pre W → pre.length < len → YieldAt Fence.wide (m - 1) Tryz.prog l (encs x) W fun e W' =>
      (e = .returned (.bool true) ∧ J (pre ++ [x]) W' ∧ KeepsProt pr W W') ∨ (e = .returned (.bool false) ∧ Jx (pre ++ [x]) W'))
    (W : World) (hBs : W.cell? ⟨Bs, 0, none⟩ = some (.slice (some ⟨b, off, none⟩) len cap)) (hc : ∀ k, k < len → W.cell? ⟨b, off + k, none⟩ = some (vals k)) (h0 : J [] W) :
    CallsIn Fence.wide m Tryz.prog 111 #[.func (.yield l) #[] #[], .pointer (some ⟨Bs, 0, none⟩)] W fun e W' => (∃ v, e = .returned v) ∧
      ((∃ ys, ys = upto (fun j => f (len - 1 - j)) len ∧ J ys W') ∨ (∃ pre, True ∧ Jx pre W')) := by
  refine callsIn_of_wp Tryz.func111 rfl trivial ?_ rfl
  simp only [Tryz.ntmps111, List.size_toArray, List.length_cons, List.length_nil, Nat.reduceAdd, Nat.reduceSub, Array.replicate_succ, Array.replicate_zero, List.push_toArray, List.append_toArray, List.nil_append, List.cons_append]
  have hw0 : IntKind.i64.wrap ((len : Int) - 1) = (len : Int) - 1 := IntWalk.i64_in _ (by omega)
  gi_wp2
  gi_loopw [3] (fun i wr => ∃ j : Nat, j ≤ len ∧ i = .int .i64 ((len : Int) - 1 - j) ∧ J (upto (fun j => f (len - 1 - j)) j) wr ∧ wr.cell? ⟨Bs, 0, none⟩ = some (.slice (some ⟨b, off, none⟩) len cap) ∧ (∀ k, k < len → wr.cell? ⟨b, off + k, none⟩ = some (vals k)))
    (fun i _ => (intOf i + 1).toNat)
  case atStart => exact ⟨0, Nat.zero_le _, by simp, h0, hBs, hc⟩
  case round =>
    obtain ⟨j, hj, rfl, hJs, hB, hcs⟩ := hrel
    by_cases hlt : j < len
    · obtain ⟨k, hk⟩ : ∃ k : Nat, len - 1 - j = k := ⟨_, rfl⟩
      have hkI : (len : Int) - 1 - j = (k : Int) := by omega
      rw [hkI]
      obtain ⟨fn, tmps, assign, body, hy, hR⟩ := hY _ (f k) wr hJs (by rw [upto_length]; exact hlt)
      rw [hen k (by omega)] at hy
      have hcx := hcs k (by omega)
      have hw1 : IntKind.i64.wrap ((k : Int) - 1) = (k : Int) - 1 := IntWalk.i64_in _ (by omega)
      gi_wp2
      refine ⟨fun h => by simp [Fence.wide] at h, hR.mono ?_⟩
      rintro e W3 (⟨rfl, hJ3, hk3⟩ | ⟨rfl, hJx3⟩)
      · have hB3 := hk3 _ _ _ hp hB
        have hc3 : ∀ k, k < len → W3.cell? ⟨b, off + k, none⟩ = some (vals k) := fun k hk => hk3 _ _ _ (hv k hk) (hcs k hk)
        gi_wp2
        go_roundw
        case rel => exact ⟨j + 1, by omega, by congr 1; omega, by rw [upto_succ, hk]; exact hJ3, hB3, hc3⟩
        case measure => simp [intOf]
      · gi_wp2
        refine bodyPost_ret (results_none rfl _ _ _) rfl ?_
        exact ⟨⟨_, rfl⟩, .inr ⟨_, trivial, hJx3⟩⟩
    · obtain rfl : j = len := by omega
      gi_wp2
      go_end0
      exact ⟨⟨_, rfl⟩, .inl ⟨_, rfl, hJs⟩⟩
set_option maxRecDepth 100000 in
/-- .. of no elements: no round. -/
theorem back_walk_nil {α : Type} (m l Bs cap : Nat) (a : Option Addr) (J : List α → World → Prop) (W : World) (hBs : W.cell? ⟨Bs, 0, none⟩ = some (.slice a 0 cap)) (h0 : J [] W) :
    CallsIn Fence.wide m Tryz.prog 111 #[.func (.yield l) #[] #[], .pointer (some ⟨Bs, 0, none⟩)] W fun e W' => (∃ v, e = .returned v) ∧ J [] W' := by
  refine callsIn_of_wp Tryz.func111 rfl trivial ?_ rfl
  simp only [Tryz.ntmps111, List.size_toArray, List.length_cons, List.length_nil, Nat.reduceAdd, Nat.reduceSub, Array.replicate_succ, Array.replicate_zero, List.push_toArray, List.append_toArray, List.nil_append, List.cons_append]
  have hw0 : IntKind.i64.wrap (-1) = -1 := IntWalk.i64_in _ (by omega)
  gi_wp2
  gi_loopw [3] (fun i wr => i = .int .i64 (-1) ∧ J [] wr) (fun _ _ => 0)
  case atStart => exact ⟨rfl, h0⟩
  case round =>
    obtain ⟨rfl, hJs⟩ := hrel
    gi_wp2
    go_end0
    exact ⟨⟨_, rfl⟩, hJs⟩
/-- The iterator of slices.Backward, over a slice that is promised. -/
theorem back_stops {α : Type} {encs : α → Array Value} (f : Nat → α) (m Bs : Nat) (es : List (List UInt8)) (sv : Value) (pr : Prot) (hlen : es.length ≤ 1000000000) (hen : ∀ k s, es[k]? = some s → encs (f k) = #[.int .i64 k, .string ⟨s.toArray⟩])
    (hp : pr Bs 0 = some sv) (hsv : PRep pr (.lst (es.map .str)) sv) (w : World) (hw : ∀ b o v, pr b o = some v → w.cell? ⟨b, o, none⟩ = some v ∧ b < w.heap.size) :
    SeqStopsK Fence.wide m Tryz.prog 111 #[.pointer (some ⟨Bs, 0, none⟩)] encs (KeepsProt pr) (fun ys => ys = upto (fun j => f (es.length - 1 - j)) es.length) (fun _ => True) es.length w := by
  intro l J Jx W hW _ _ hY h0
  have cell : ∀ b o v, pr b o = some v → W.cell? ⟨b, o, none⟩ = some v := fun b o v h => (hW.cell (p := ⟨b, o, none⟩) (hw b o v h).2).trans (hw b o v h).1
  cases hsv with
  | lst _ a len cap size blk off vals hl hc hm ha hs hpv hr hk =>
    simp only [List.length_map] at hl hpv
    by_cases h0l : es = []
    · subst h0l
      simp only [List.length_nil] at hl
      subst hl
      exact (back_walk_nil m l Bs cap a J W (cell _ _ _ hp) h0).mono fun e W' ⟨he, hj⟩ => ⟨he, .inl ⟨_, rfl, hj⟩⟩
    · have hne : es.map PVal.str ≠ [] := by simpa using h0l
      rw [ha hne] at hp
      subst hl
      have hsz : size = 1 := by
        have := hs (.str (es.head h0l)) (by simp [List.head_mem])
        simpa [PVal.cells] using this.symm
      subst hsz
      have hpv' : ∀ k, k < es.length → pr blk (off + k) = some (vals k 0) := fun k hk => by
        have := hpv k 0 hk (by omega)
        simpa using this
      refine back_walk f (fun k => vals k 0) m l Bs blk off es.length cap pr hlen (fun k hk => ?_) hp hpv' J Jx hY W (cell _ _ _ hp) (fun k hk => cell _ _ _ (hpv' k hk)) h0
      obtain ⟨s, hs'⟩ : ∃ s, es[k]? = some s := ⟨_, List.getElem?_eq_getElem hk⟩
      rw [hen k s hs']
      have := hr k (.str s) 0 (.str s) (by simp [hs']) rfl
      show _ = #[Value.int .i64 (k : Int), vals k 0]
      generalize vals k 0 = v at this ⊢
      cases this
      rfl
end Go.Proofs.YtgdpephlpdonnaaGreatDoor
