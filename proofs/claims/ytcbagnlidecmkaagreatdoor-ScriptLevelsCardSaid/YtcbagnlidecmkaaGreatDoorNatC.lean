/-
  What the reference's numbers compute, part 1. No conditions beyond the lemmas' own hypotheses.
-/
import Derived.Test.YtcbagnlidecmkaaGreatDoorNatS
import Derived.Test.YtcbagnlidecmkaaGreatDoorAbsThree
import Derived.Test.YtcbagnlidecmkaaGreatDoorProg
import Derived.RangeFuncBox
import Derived.Shelf.Abstract
import Derived.WalkKit
import Derived.OwnWalkIn
import Derived.TacticsInMore
import Derived.LoopNIn
import Derived.LoopIn
import Derived.Test.YtcbagnlidecmkaaGreatDoorNatB
import Derived.Test.YtcbagnlidecmkaaGreatDoorNatA
import Derived.Test.YtcbagnlidecmkaaGreatDoorNatL
set_option linter.unusedSimpArgs false
set_option linter.unnecessarySimpa false
set_option linter.unusedVariables false
set_option linter.constructorNameAsVariable false

/-
 internal/strconv.FormatUint at base 10: every number's decimal numeral.
-/
namespace Go.Proofs.YtcbagnlidecmkaaGreatDoor.Nn
open Go Go.Shelf Go.RowKit Go.Sort Go.Lib Go.Abs
theorem holds_heap {w w' : World} {blk off : Nat} {d : Array UInt8} (h : Holds (fun (b : UInt8) => Value.int .u8 (b.toNat : Int)) w blk off d) (e : w'.heap[blk]? = w.heap[blk]?) : Holds (fun (b : UInt8) => Value.int .u8 (b.toNat : Int)) w' blk off d := by
 intro j hj
 rw [World.cell?_of_block (a := ⟨blk, off + j, none⟩) e, World.frozen?_of_block (a := ⟨blk, off + j, none⟩) e]
 exact h j hj
theorem below_digits {B : Nat} {w W : World} {g off n : Nat} {d : Array UInt8} (h : Below B w W) (hg : B ≤ g) : Below B w ((putRow (fun (b : UInt8) => Value.int .u8 (b.toNat : Int)) W g off d).drewN n) := by
 refine ⟨h.os, h.tape, h.output, ?_, fun k hk => ?_⟩
 ·show w.heap.size ≤ (W.heap.modify g _).size
  rw [Array.size_modify]
  exact h.size
 ·show (W.heap.modify g _)[k]? = _
  rw [Array.getElem?_modify, if_neg (by omega)]
  exact h.block k hk
section
set_option maxRecDepth 20000
attribute [local irreducible] vc
attribute [local simp] pureS touchV freezeL fuel shiftV u64
end
end Go.Proofs.YtcbagnlidecmkaaGreatDoor.Nn

/-
 slices.Backward: what its iterator hands out.
-/
namespace Go.Proofs.YtcbagnlidecmkaaGreatDoor.Nn
open Go Go.Abs Go.RowKit Go.Shelf
attribute [local go_sem] Oper.semAt_some
end Go.Proofs.YtcbagnlidecmkaaGreatDoor.Nn

/-
 slices.Backward in a caller: its range.
-/
namespace Go.Proofs.YtcbagnlidecmkaaGreatDoor.Nn
open Go Go.Abs Go.RowKit
variable {base : Prot}
set_option maxRecDepth 20000
section
attribute [local irreducible] vc
attribute [local simp] pureS touchV freezeL fuel shiftV
end
end Go.Proofs.YtcbagnlidecmkaaGreatDoor.Nn

/-
 nat: a number's numeral (Text).
-/
namespace Go.Proofs.YtcbagnlidecmkaaGreatDoor.Nn
open Go Go.Abs Go.Limbs
variable {base : Prot}
set_option maxRecDepth 20000
attribute [local irreducible] vc
attribute [local simp] pureS touchV freezeL fuel shiftV u64
def sText : List PVal → Option PVal
 | [.lst xs] => match decU xs with
  | some a => some (.str (if okL a then Lib.decDigits (val a) else []))
  | none => none
 | _ => none
theorem sText_num {a : Nat} (h : len a ≤ 64) : sText [.lst ((limbs a).map u64)] = some (.str (Lib.decDigits a)) := by
 have : okL (limbs a) = true := by rw [okL_num]; exact decide_eq_true h
 simp only [sText, decU_map (wf_limbs a), this, if_true, val_limbs]
def HasParts (H : Heap) (b L : Nat) : Prop := ∃ j ver e, H[0]? = some ⟨1, 0, false, [.own j 0 L ver], 43⟩ ∧ j < b ∧ H[j]? = some e ∧ e.ver = ver
theorem freeze1_ne {H : Heap} {k q : Nat} (h : q ≠ k) : (freeze1 H k)[q]? = H[q]? := by
 unfold freeze1
 split
 ·rw [List.getElem?_set_ne (Ne.symm h)]
 ·rfl
theorem HasParts.freeze {H : Heap} {b L k : Nat} (h : HasParts H b L) (hk : b ≤ k) (hb : 0 < b) : HasParts (freeze1 H k) b L := by
 obtain ⟨j, ver, e, h1, h2, h3, h4⟩ := h
 exact ⟨j, ver, e, by rw [freeze1_ne (by omega)]; exact h1, h2, by rw [freeze1_ne (by omega)]; exact h3, h4⟩
theorem HasParts.keep {H H' : Heap} {b L : Nat} (h : HasParts H b L) (hb : 0 < b) (hk : ∀ q, q < b → H'[q]? = H[q]?) : HasParts H' b L := by
 obtain ⟨j, ver, e, h1, h2, h3, h4⟩ := h
 exact ⟨j, ver, e, by rw [hk 0 hb]; exact h1, h2, by rw [hk j h2]; exact h3, h4⟩
end Go.Proofs.YtcbagnlidecmkaaGreatDoor.Nn

/-
 strconv.ParseUint of digits; nat.Read and nat.Parse.
-/
namespace Go.Proofs.YtcbagnlidecmkaaGreatDoor.Nn
open Go Go.Abs Go.Limbs Go.RowKit
variable {base : Prot}
set_option maxRecDepth 20000
def numD : Nat → List UInt8 → Nat
 | acc, [] => acc
 | acc, c :: r => numD (acc * 10 + (c.toNat - 48)) r
end Go.Proofs.YtcbagnlidecmkaaGreatDoor.Nn

/-
 nat.Read and nat.Parse.
-/
namespace Go.Proofs.YtcbagnlidecmkaaGreatDoor.Nn
open Go Go.Abs Go.Limbs
variable {base : Prot}
set_option maxRecDepth 20000
attribute [local irreducible] vc
attribute [local simp] pureS touchV freezeL fuel shiftV u64 au
def parseL (s : List UInt8) : List Nat × Nat := if digS s then (if 1280 < (s.dropWhile (· == 48)).length then ([], 4) else heldL (numD 0 s)) else ([], 2)
def sParse : List PVal → Option PVal
 | [.str s] => if s.length ≤ 90000 then some (pairP (parseL s)) else none
 | _ => none
theorem sParse_at {s : List UInt8} (h : s.length ≤ 90000) : sParse [.str s] = some (pairP (parseL s)) := by
 simp only [sParse]
 rw [if_pos h]
end Go.Proofs.YtcbagnlidecmkaaGreatDoor.Nn

/-
 law1: same, few, awake.
-/
namespace Go.Proofs.YtcbagnlidecmkaaGreatDoor.Nn
open Go Go.Abs Go.Limbs
variable {base : Prot}
set_option maxRecDepth 20000
attribute [local irreducible] vc
attribute [local simp] pureS touchV freezeL fuel shiftV u64 au
def Tsm : Tab := Tab.none
theorem Tsm_ok : TabOk Tryz.prog base Tsm := Tab.none_ok
theorem Tsm_mu (f : FuncId) (a : List AVal) (H : Heap) : Tsm.mu f a H = none := (rfl)
def sAwake : List PVal → Option PVal
 | [] => some (.bool true)
 | _ => none
end Go.Proofs.YtcbagnlidecmkaaGreatDoor.Nn

/-
 whole: what is a number, signs, the order, sums and products of any size.
-/
namespace Go.Proofs.YtcbagnlidecmkaaGreatDoor.Nn
open Go Go.Abs Go.Limbs
variable {base : Prot}
set_option maxRecDepth 20000
attribute [local irreducible] vc
attribute [local simp] pureS touchV freezeL fuel shiftV u64 au
def iP (s : Bool) (l : List Nat) : PVal := .agg [.bool s, .lst (l.map u64)]
def iN (z : Int) : PVal := iP (decide (z < 0)) (limbs z.natAbs)
def zOf (s : Bool) (n : Nat) : Int := if s then -(n : Int) else n
def okI (s : Bool) (l : List Nat) : Bool := okL l && (!s || decide (0 < l.length))
def zl (z : Int) : Nat := len z.natAbs
theorem zOf_abs (s : Bool) (n : Nat) : (zOf s n).natAbs = n := by cases s <;> simp [zOf]
theorem iP_zOf {s : Bool} {n : Nat} (h : s = true → n ≠ 0) : iP s (limbs n) = iN (zOf s n) := by
 unfold iN
 rw [zOf_abs]
 congr 1
 cases s with
 | false => simp [zOf]
 | true => have := h rfl; simp [zOf]; omega
theorem wide_zOf (s : Bool) (n : Nat) : iP (s && decide (0 < (limbs n).length)) (limbs n) = iN (zOf s n) := by
 by_cases h : n = 0
 ·subst h
  rw [limbs_zero]
  cases s <;> simp [iN, zOf, limbs_zero]
 ·have hl : 0 < (limbs n).length := by
   have : (limbs n).length ≠ 0 := fun e => h (len_eq_zero.1 e)
   omega
  rw [decide_eq_true hl, Bool.and_true]
  exact iP_zOf fun _ => h
theorem okI_of {s : Bool} {l : List Nat} (h : okI s l = true) : ∃ z : Int, zl z ≤ 64 ∧ s = decide (z < 0) ∧ l = limbs z.natAbs := by
 unfold okI at h
 simp only [Bool.and_eq_true, Bool.or_eq_true, Bool.not_eq_true', decide_eq_true_eq] at h
 obtain ⟨n, rfl, hn⟩ := okL_true h.1
 have hs : s = true → n ≠ 0 := fun e h0 => by
  subst h0
  rcases h.2 with h2 | h2
  ·rw [e] at h2; cases h2
  ·rw [limbs_zero] at h2; simp at h2
 refine ⟨zOf s n, by unfold zl; rw [zOf_abs]; exact hn, ?_, by rw [zOf_abs]⟩
 cases s with
 | false => simp [zOf]
 | true => have := hs rfl; simp [zOf]; omega
theorem okI_num {z : Int} (h : zl z ≤ 64) : okI (decide (z < 0)) (limbs z.natAbs) = true := by
 unfold okI
 rw [okL_limbs h, Bool.true_and]
 by_cases hz : z < 0
 ·have : (limbs z.natAbs).length ≠ 0 := fun e => by have := len_eq_zero.1 e; omega
  have hl : 0 < (limbs z.natAbs).length := by omega
  simp [hz, hl]
 ·simp [hz]
theorem zOf_sign (z : Int) : zOf (decide (z < 0)) z.natAbs = z := by
 by_cases h : z < 0
 ·simp [zOf, h]; omega
 ·simp [zOf, h]; omega
def sIV : List PVal → Option PVal
 | [.agg [.bool s, .lst xs]] => match decU xs with | some l => some (.bool (okI s l)) | none => none
 | _ => none
theorem sIV_list {s : Bool} {l : List Nat} (h : Wf l) : sIV [.agg [.bool s, .lst (l.map u64)]] = some (.bool (okI s l)) := by simp only [sIV, decU_map h]
def sWide : List PVal → Option PVal
 | [.bool s, .lst xs] => match decU xs with | some l => some (iP (s && decide (0 < l.length)) l) | none => none
 | _ => none
theorem sWide_num (s : Bool) (n : Nat) : ∃ b l, iN (zOf s n) = iP b l ∧ Wf l ∧ sWide [.bool s, .lst ((limbs n).map u64)] = some (.agg [.bool b, .lst (l.map u64)]) :=
 ⟨_, _, (wide_zOf s n).symm, wf_limbs n, by simp only [sWide, decU_map (wf_limbs n)]; rfl⟩
end Go.Proofs.YtcbagnlidecmkaaGreatDoor.Nn

/-
 whole: sums, products, the order, signs and negatives, as called from outside.
-/
namespace Go.Proofs.YtcbagnlidecmkaaGreatDoor.Nn
open Go Go.Abs Go.Limbs
variable {base : Prot}
set_option maxRecDepth 20000
attribute [local irreducible] vc
attribute [local simp] pureS touchV freezeL fuel shiftV u64 au
def hN (z : Int) : PVal := if zl z ≤ 64 then iN z else iP false []
def hE (z : Int) : Int := if zl z ≤ 64 then 0 else 4
end Go.Proofs.YtcbagnlidecmkaaGreatDoor.Nn

/-
 whole: numbers of ints, values, texts, quotients; law2's same and few.
-/
namespace Go.Proofs.YtcbagnlidecmkaaGreatDoor.Nn
open Go Go.Abs Go.Limbs
variable {base : Prot}
set_option maxRecDepth 20000
attribute [local irreducible] vc
attribute [local simp] pureS touchV freezeL fuel shiftV u64 au
def sIOf : List PVal → Option PVal
 | [.int .i64 n] => if -9223372036854775808 ≤ n ∧ n < 9223372036854775808 then some (iN n) else none
 | _ => none
theorem sIOf_at {n : Int} (h1 : -9223372036854775808 ≤ n) (h2 : n < 9223372036854775808) : sIOf [.int .i64 n] = some (iN n) := if_pos ⟨h1, h2⟩
def textI (s : Bool) (l : List Nat) : List UInt8 := if okI s l then (if s then 45 :: Lib.decDigits (val l) else Lib.decDigits (val l)) else []
def sIText : List PVal → Option PVal
 | [.agg [.bool s, .lst xs]] => match decU xs with | some l => some (.str (textI s l)) | none => none
 | _ => none
def Tit : Tab := Tab.none
theorem Tit_ok : TabOk Tryz.prog base2 Tit := Tab.none_ok
theorem Tit_mu (f : FuncId) (a : List AVal) (H : Heap) : Tit.mu f a H = none := (rfl)
theorem dec_le {n k : Nat} (h : n < 10 ^ (k + 1)) : (Lib.decDigits n).length ≤ k + 1 := (pad_dec k n h).1
theorem B64_ten : B ^ 64 < 10 ^ (1279 + 1) := by decide +kernel
theorem B64_k : ∃ k, k ≤ 1279 ∧ B ^ 64 ≤ 10 ^ (k + 1) := ⟨1279, Nat.le_refl _, Nat.le_of_lt B64_ten⟩
def Tct : Tab := Tab.none
theorem Tct_ok : TabOk Tryz.prog base Tct := Tab.none_ok
theorem Tct_mu (f : FuncId) (a : List AVal) (H : Heap) : Tct.mu f a H = none := (rfl)
end Go.Proofs.YtcbagnlidecmkaaGreatDoor.Nn

/-
 whole: quotients; law2's awake.
-/
namespace Go.Proofs.YtcbagnlidecmkaaGreatDoor.Nn
open Go Go.Abs Go.Limbs
variable {base : Prot}
set_option maxRecDepth 20000
attribute [local irreducible] vc
attribute [local simp] pureS touchV freezeL fuel shiftV u64 au
end Go.Proofs.YtcbagnlidecmkaaGreatDoor.Nn
