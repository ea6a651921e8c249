/-
  What strconv.FormatUint computes: the library's contract at this program. No conditions beyond the lemmas' own hypotheses.
-/
import Derived.Shelf.Strconv.Itoa0
import Derived.Shelf.Strconv.Itoa1
import Derived.Shelf.LaysM
import Derived.Shelf.Strconv.Itoa2
import Derived.Test.YtcbagnlidecmkaaGreatDoorProg
import Derived.Test.YtcbagnlidecmkaaGreatDoorNatL
import Derived.Test.YtcbagnlidecmkaaGreatDoorNatA
import Derived.Shelf.Strconv.Itoa3
import Derived.Lib.Walk
import Derived.Lib.ItoaMem
import Derived.WalkKit
import Derived.BigCall
import Derived.BigGuard
set_option linter.unusedSimpArgs false
set_option linter.unnecessarySimpa false
set_option linter.unusedVariables false
set_option linter.constructorNameAsVariable false

/-
 DERIVED: THE SHELF's CONTRACTS AT THIS DUMP, IN PLAIN WORDS (tools/lay-plain.mjs out of 'TryzShelf.lean', which tools/lay-shelf.mjs wrote): THE SAME DECLARATIONS UNDER THE SAME NAMES: 'import', 'namespace', 'open', 'def', 'theorem' AND NOTHING ELSE: no command of the shelf's: FOR A HAND-IN. Each laying: the table of numbers ('.._ren') and one theorem, a field a fact of the dump's own or the kernel's comparison; each contract: ONE APPLICATION.
-/
namespace Go.Proofs
open Go.Shelf
def Tryz.lays283_ren : Go.Shelf.Ren := ⟨fun | 283 => 92 | n => n, fun | 3 => 3 | 9 => 9 | 4 => 4 | n => n, fun | n => n⟩
theorem Tryz.lays283 : Go.Proofs.Lays.n283 Tryz.prog Tryz.lays283_ren := {
 mixed := by kernel_rfl
 f283 := Tryz.func92.trans (congrArg some (by kernel_rfl))
 t3 := Tryz.underlying3
 a3 := Tryz.isAgg3
 z3 := Tryz.sizeOf3
 v3 := Tryz.zeroValue3
 t4 := Tryz.underlying4
 a4 := Tryz.isAgg4
 z4 := Tryz.sizeOf4
 v4 := Tryz.zeroValue4
 t9 := Tryz.underlying9
 a9 := Tryz.isAgg9
 z9 := Tryz.sizeOf9
 v9 := Tryz.zeroValue9 }
def Tryz.lays285_ren : Go.Shelf.Ren := ⟨fun | 285 => 94 | n => n, fun | 37 => 47 | 53 => 79 | 3 => 3 | 4 => 4 | 51 => 104 | 9 => 9 | 5 => 5 | 0 => 0 | n => n, fun | n => n⟩
theorem Tryz.lays285 : Go.Proofs.Lays.n285 Tryz.prog Tryz.lays285_ren := {
 mixed := by kernel_rfl
 f285 := Tryz.func94.trans (congrArg some (by kernel_rfl))
 t0 := Tryz.underlying0
 a0 := Tryz.isAgg0
 z0 := Tryz.sizeOf0
 v0 := Tryz.zeroValue0
 t3 := Tryz.underlying3
 a3 := Tryz.isAgg3
 z3 := Tryz.sizeOf3
 v3 := Tryz.zeroValue3
 t4 := Tryz.underlying4
 a4 := Tryz.isAgg4
 z4 := Tryz.sizeOf4
 v4 := Tryz.zeroValue4
 t5 := Tryz.underlying5
 a5 := Tryz.isAgg5
 z5 := Tryz.sizeOf5
 v5 := Tryz.zeroValue5
 t9 := Tryz.underlying9
 a9 := Tryz.isAgg9
 z9 := Tryz.sizeOf9
 v9 := Tryz.zeroValue9
 t37 := Tryz.underlying47
 a37 := Tryz.isAgg47
 z37 := Tryz.sizeOf47
 v37 := Tryz.zeroValue47
 t51 := Tryz.underlying104
 a51 := Tryz.isAgg104
 z51 := Tryz.sizeOf104
 v51 := Tryz.zeroValue104
 t53 := Tryz.underlying79
 a53 := Tryz.isAgg79
 z53 := Tryz.sizeOf79
 v53 := Tryz.zeroValue79 }
end Go.Proofs

/-
  internal/strconv: how many digits; a number's decimal numeral.
-/
namespace Go.Proofs.YtcbagnlidecmkaaGreatDoor.Nn
open Go Go.Abs Go.Limbs
variable {base : Prot}
set_option maxRecDepth 20000
def pow10Cells : List PVal := (List.range 20).map fun i => .int .u64 ((10 ^ i : Nat) : Int)
def base2 : Prot := fun b o => if b = 4 ∧ o < 20 then some (.int .u64 ((10 ^ o : Nat) : Int)) else none
def gl2 : Nat → AVal := fun g => if g = 4 then .p (.cptr pow10Cells) else .junk
theorem pow10_len : pow10Cells.length = 20 := by simp [pow10Cells]
theorem pow10_get {i : Nat} (h : i < 20) : pow10Cells[i]? = some (.int .u64 ((10 ^ i : Nat) : Int)) := by
  simp only [pow10Cells, List.getElem?_map]
  rw [List.getElem?_range h]
  rfl
theorem glob2 : GlobOk base2 gl2 := by
  intro g c h
  unfold gl2
  split
  case isFalse => exact .junk _
  rename_i e
  subst e
  refine .p _ _ (.cptr pow10Cells 4 0 (fun j => .int .u64 ((10 ^ j : Nat) : Int)) (fun j hj => ?_) (fun j x hx => ?_) (fun x hx => ?_))
  · exact h _ _ _ (by rw [pow10_len] at hj; simp [base2, hj])
  · have hj : j < 20 := by rw [← pow10_len]; exact (List.getElem?_eq_some_iff.1 hx).1
    rw [pow10_get hj] at hx
    cases hx
    exact .int _ _
  · simp only [pow10Cells, List.mem_map] at hx
    obtain ⟨y, _, rfl⟩ := hx
    rfl
def lfND : LFunc := ⟨15, [(.slot 2)], (
  .seq (
   .region [
     ⟨(some 2), none, .mov (.cst (.p (.int .i64 0)))⟩]) (
   .seq (
    .region [
      ⟨(some 4), none, .mov (.tmp 0)⟩,
      ⟨(some 5), none, .call 96 [(.tmp 4)]⟩,
      ⟨(some 6), none, .call 108 [(.tmp 5)]⟩,
      ⟨(some 3), none, .mov (.tmp 6)⟩]) (
    .seq (
     .region [
       ⟨(some 7), none, .mov (.tmp 3)⟩,
       ⟨(some 8), none, .mov (.tmp 0)⟩,
       ⟨(some 9), none, .mov (.tmp 3)⟩,
       ⟨(some 10), none, .iaadr 20 1 (.cst (.p (.cptr pow10Cells))) (.tmp 9)⟩,
       ⟨(some 11), none, .load 1 false (.tmp 10)⟩,
       ⟨(some 12), none, .bin .geq (.tmp 8) (.tmp 11)⟩,
       ⟨(some 13), none, .call 109 [(.tmp 12)]⟩,
       ⟨(some 14), none, .bin .add (.tmp 7) (.tmp 13)⟩,
       ⟨(some 2), none, .mov (.tmp 14)⟩]) (
     .ret))))⟩
theorem lowND : lowFunc Tryz.prog gl2 93 = some lfND := by kernel_rfl
section
attribute [local irreducible] vc
attribute [local simp] pureS touchV freezeL fuel shiftV u64
def sLog : List PVal → Option PVal
  | [.int .i64 x] => if 0 ≤ x ∧ x ≤ 64 then some (.int .i64 (Lib.l10 x.toNat : Nat)) else none
  | _ => none
theorem log_ok : FnOk Tryz.prog base 108 (pureS sLog) := by
  refine pure_of_vc hmix Tab.none_ok globNone low108 fun args z hs hf => ?_
  unfold sLog at hs
  split at hs
  case h_2 => cases hs
  rename_i x
  split at hs
  case isFalse => cases hs
  rename_i hx
  cases hs
  obtain ⟨x, rfl⟩ := Int.eq_ofNat_of_zero_le hx.1
  refine ⟨by simp [lf108], ?_⟩
  obtain ⟨p, hp⟩ : ∃ p, p = x * 78913 := ⟨_, rfl⟩
  have w1 : IntKind.i64.wrap ((x : Int) * 78913) = (p : Int) := by rw [IntWalk.i64_in _ (by omega)]; omega
  have w2 : shiftI .shr .i64 (p : Int) 18 = some (.int .i64 (Lib.l10 x : Nat)) := by
    have h : (p : Int).fdiv (2 ^ 18) = ((p / 2 ^ 18 : Nat) : Int) := fdiv_pow p 18
    show some (PVal.int .i64 ((p : Int).fdiv (2 ^ 18))) = _
    rw [h, hp]
    rfl
  simp [lf108, w1, w2]
def sBool2 : List PVal → Option PVal
  | [.bool b] => some (.int .i64 (if b then 1 else 0))
  | _ => none
theorem bool2_ok : FnOk Tryz.prog base 109 (pureS sBool2) := by
  refine pure_of_vc hmix Tab.none_ok globNone low109 fun args z hs hf => ?_
  unfold sBool2 at hs
  split at hs
  case h_2 => cases hs
  rename_i b
  cases hs
  refine ⟨by simp [lf109], ?_⟩
  cases b <;> simp [lf109]
def Tnd : Tab := ((Tab.none.with 96 (pureS sLen64)).with 108 (pureS sLog)).with 109 (pureS sBool2)
theorem Tnd_ok : TabOk Tryz.prog base Tnd := Tab.with_ok (Tab.with_ok (Tab.with_ok Tab.none_ok len64_ok) log_ok) bool2_ok
theorem Tnd_mu (f : FuncId) (a : List AVal) (H : Heap) : Tnd.mu f a H = none := (rfl)
theorem Tnd_fns : Tnd.fn 96 = pureS sLen64 ∧ Tnd.fn 108 = pureS sLog ∧ Tnd.fn 109 = pureS sBool2 := ⟨rfl, rfl, rfl⟩
theorem bitLen_size {u : Nat} (h1 : 1 ≤ u) (h2 : u < B) : Lib.bitLen u = size u := by
  obtain ⟨a, b, c⟩ := Lib.bitLenAux_bounds 64 u (by rw [pow64]; exact h2) (by omega)
  unfold Lib.bitLen
  obtain ⟨k, hk⟩ : ∃ k, Lib.bitLenAux 64 u = k + 1 := ⟨Lib.bitLenAux 64 u - 1, by omega⟩
  rw [hk] at b c ⊢
  exact (size_eq (by simpa using b) c).symm
def sND : List PVal → Option PVal
  | [.int .u64 u] => if 1 ≤ u ∧ u.toNat < B then some (.int .i64 (Lib.nDigits u.toNat : Nat)) else none
  | _ => none
theorem numDigits_ok : FnOk Tryz.prog base2 93 (pureS sND) := by
  refine pure_of_vc hmix Tnd_ok glob2 lowND fun args z hs hf => ?_
  unfold sND at hs
  split at hs
  case h_2 => cases hs
  rename_i u
  split at hs
  case isFalse => cases hs
  rename_i hu
  cases hs
  obtain ⟨u, rfl⟩ := Int.eq_ofNat_of_zero_le (a := u) (by omega)
  simp only [Int.toNat_natCast] at hu ⊢
  obtain ⟨h1, h2⟩ := hu
  refine ⟨by simp [lfND], ?_⟩
  obtain ⟨e1, e2⟩ := Lib.numDigits_eq u (by omega) h2
  rw [bitLen_size (by omega) h2] at e1 e2
  have hL := sLen64_nat h2
  have hsz := size64 h2
  have hl : sLog [.int .i64 (size u)] = some (.int .i64 (Lib.l10 (size u) : Nat)) := by
    show (if (0 : Int) ≤ size u ∧ (size u : Int) ≤ 64 then _ else none) = _
    rw [if_pos ⟨by omega, by omega⟩]
    rfl
  obtain ⟨t, ht⟩ : ∃ t, t = Lib.l10 (size u) := ⟨_, rfl⟩
  rw [← ht] at e1 e2 hl
  have hg := pow10_get (i := t) (by omega)
  obtain ⟨p, hp⟩ : ∃ p, p = 10 ^ t := ⟨_, rfl⟩
  rw [← hp] at hg e1
  have htI : (t : Int) < 20 := by omega
  have htN : t < 20 := by omega
  have htl : t ≤ pow10Cells.length := by rw [pow10_len]; omega
  have htl2 : t + 1 ≤ pow10Cells.length := by rw [pow10_len]; omega
  have hdr : (pow10Cells.drop t)[0]? = some (.int .u64 (p : Int)) := by rw [List.getElem?_drop]; exact hg
  obtain ⟨rest, hrest⟩ : ∃ r, pow10Cells.drop t = .int .u64 (p : Int) :: r := by
    cases hd : pow10Cells.drop t with
    | nil => rw [hd] at hdr; simp at hdr
    | cons y r => rw [hd] at hdr; simp at hdr; exact ⟨r, by rw [hdr]⟩
  by_cases hc : p ≤ u
  · rw [if_pos hc] at e1
    have w : IntKind.i64.wrap ((t : Int) + 1) = (Lib.nDigits u : Int) := by rw [IntWalk.i64_in _ (by omega)]; omega
    have hb : sBool2 [.bool true] = some (.int .i64 1) := rfl
    simp [lfND, hL, hl, htI, htN, htl, hrest, hc, hb, w, Tnd_mu, Tnd_fns]
  · rw [if_neg hc] at e1
    have w : IntKind.i64.wrap (t : Int) = (Lib.nDigits u : Int) := by rw [IntWalk.i64_in _ (by omega)]; omega
    have hb : sBool2 [.bool false] = some (.int .i64 0) := rfl
    simp [lfND, hL, hl, htI, htN, htl, hrest, hc, hb, w, Tnd_mu, Tnd_fns]
end
theorem calls_of_fn {P : Program} {base : Prot} {f : FuncId} {s : List PVal → Option PVal} (h : FnOk P base f (pureS s)) {W : World} (hb : Prot.le base (allCells W)) {ps : List PVal} {vs : List Value} (hl : vs.length = ps.length)
    (hr : ∀ (j : Nat) x v, ps[j]? = some x → vs[j]? = some v → PRep (allCells W) x v) {x : PVal} (hs : s ps = some x) :
    Calls P f vs.toArray W fun e W' => ∃ v, e = .returned v ∧ PRep (allCells W') x v ∧ Go.RowKit.Below W.heap.size W W' := by
  have hI : Inv base ⟨[], allCells W⟩ [] W := ⟨hb, rfl, fun _ _ _ h => h, fun k e l h => by simp at h, fun k k' l l' g cp cp' h => by simp at h⟩
  refine (h.2 ps (.p x) [] (by simp [pureS, hs]) ⟨[], allCells W⟩ W vs hI (PRep.toRep hl hr)).mono fun e w' ⟨v, c', he, st, hI', rp⟩ => ?_
  cases rp with
  | p _ _ rp =>
    exact ⟨v, he, rp.mono hI'.prot, st.os, st.tape, st.output, st.size, fun k hk => st.blk k hk (fun ⟨j, l, cap, hl, _⟩ => by simp at hl)⟩
end Go.Proofs.YtcbagnlidecmkaaGreatDoor.Nn
