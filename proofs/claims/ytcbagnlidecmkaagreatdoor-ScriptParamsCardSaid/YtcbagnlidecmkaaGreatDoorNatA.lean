/-
  Limbs as lists, and what the small functions on them compute. No conditions beyond the lemmas' own hypotheses.
-/
import Derived.Test.YtcbagnlidecmkaaGreatDoorAbsThree
import Derived.Laws.Externs
import Derived.IntWalk
import Derived.Test.YtcbagnlidecmkaaGreatDoorNatL
import Derived.Lib.Mul64
set_option linter.unusedSimpArgs false
set_option linter.unnecessarySimpa false
set_option linter.unusedVariables false
set_option linter.constructorNameAsVariable false

/-
 LIMBS, part A: natural numbers as rows of limbs, the lowest first. No program in sight.
-/
namespace Go.Limbs
def B : Nat := 18446744073709551616
theorem B_one : 1 < B := by decide
def val : List Nat → Nat
 | [] => 0
 | x :: r => x + B * val r
def Wf (l : List Nat) : Prop := ∀ x ∈ l, x < B
def limbs (n : Nat) : List Nat := if _h : n = 0 then [] else n % B :: limbs (n / B)
termination_by n
decreasing_by exact Nat.div_lt_self (by omega) B_one
def fix : Nat → Nat → List Nat
 | 0, _ => []
 | k + 1, n => n % B :: fix k (n / B)
def Canon (l : List Nat) : Prop := Wf l ∧ l.getLast? ≠ some 0
theorem Wf.nil : Wf [] := fun x h => by simp at h
theorem Wf.cons {x : Nat} {l : List Nat} (h : x < B) (r : Wf l) : Wf (x :: l) := fun y hy => by
 rcases List.mem_cons.1 hy with rfl | h1
 ·exact h
 ·exact r y h1
theorem Wf.tail {x : Nat} {l : List Nat} (h : Wf (x :: l)) : Wf l := fun y hy => h y (by simp [hy])
theorem Wf.append {a b : List Nat} (h : Wf a) (r : Wf b) : Wf (a ++ b) := fun x hx => by
 rcases List.mem_append.1 hx with h1 | h1
 ·exact h x h1
 ·exact r x h1
theorem Wf.left {a b : List Nat} (h : Wf (a ++ b)) : Wf a := fun x hx => h x (by simp [hx])
theorem Wf.right {a b : List Nat} (h : Wf (a ++ b)) : Wf b := fun x hx => h x (by simp [hx])
theorem Wf.take {a : List Nat} (h : Wf a) (n : Nat) : Wf (a.take n) := fun x hx => h x (List.mem_of_mem_take hx)
theorem Wf.drop {a : List Nat} (h : Wf a) (n : Nat) : Wf (a.drop n) := fun x hx => h x (List.mem_of_mem_drop hx)
theorem Wf.get {a : List Nat} (h : Wf a) {i x : Nat} (hx : a[i]? = some x) : x < B := h x (List.mem_of_getElem? hx)
theorem Wf.set {a : List Nat} (h : Wf a) (i : Nat) {x : Nat} (hx : x < B) : Wf (a.set i x) := fun y hy => by
 rcases List.mem_or_eq_of_mem_set hy with h1 | h1
 ·exact h y h1
 ·subst h1; exact hx
theorem Canon.tail {x : Nat} {l : List Nat} (h : Canon (x :: l)) : Canon l := by
 refine ⟨h.1.tail, fun e => h.2 ?_⟩
 rw [List.getLast?_cons, e]; rfl
def len (n : Nat) : Nat := (limbs n).length
end Go.Limbs

/-
 LIMBS, part B: what one round of each loop does to the numbers. No program in sight.
-/
namespace Go.Limbs
theorem pow64 : (2 : Nat) ^ 64 = B := by decide
end Go.Limbs

/-
 LIMBS, part C: the digits of a quotient. No program in sight.
-/
namespace Go.Limbs
def size (n : Nat) : Nat := if n = 0 then 0 else n.log2 + 1
theorem lt_size (n : Nat) : n < 2 ^ size n := by
 unfold size
 split
 ·omega
 ·exact Nat.lt_log2_self
theorem size_le {n : Nat} (h : n ≠ 0) : 2 ^ (size n - 1) ≤ n := by
 unfold size
 rw [if_neg h]
 exact Nat.log2_self_le h
theorem size_zero : size 0 = 0 := rfl
theorem size_pos {n : Nat} (h : n ≠ 0) : 0 < size n := by unfold size; rw [if_neg h]; omega
theorem size_le_iff {n k : Nat} : size n ≤ k ↔ n < 2 ^ k := by
 constructor
 ·intro h
  exact Nat.lt_of_lt_of_le (lt_size n) (Nat.pow_le_pow_right (by omega) h)
 ·intro h
  by_cases hn : n = 0
  ·subst hn; simp [size_zero]
  ·have h1 := size_le hn
   have h2 : 2 ^ (size n - 1) < 2 ^ k := by omega
   have h3 := (Nat.pow_lt_pow_iff_right (by omega : 1 < 2)).1 h2
   omega
theorem size_eq {n k : Nat} (h1 : 2 ^ k ≤ n) (h2 : n < 2 ^ (k + 1)) : size n = k + 1 := by
 have h3 := size_le_iff.2 h2
 have h4 : ¬ size n ≤ k := fun h => by have := size_le_iff.1 h; omega
 omega
end Go.Limbs

/-
 LIMBS, part D: rows of limbs as pure values; the carry of Go's bits.
-/
namespace Go.Abs
open Go.Limbs
def u64 (n : Nat) : PVal := .int .u64 n
def lstP (l : List Nat) : PVal := .lst (l.map u64)
def decU : List PVal → Option (List Nat)
 | [] => some []
 | .int .u64 z :: r => if 0 ≤ z ∧ z.toNat < B then (match decU r with | some l => some (z.toNat :: l) | none => none) else none
 | _ :: _ => none
def decN (es : List PVal) : Option Nat := match decU es with
 | some l => if limbs (val l) = l ∧ l.length ≤ 100000 then some (val l) else none
 | none => none
theorem B_lit : B = 18446744073709551616 := rfl
theorem fdiv_pow (a s : Nat) : (a : Int).fdiv (2 ^ s) = ((a / 2 ^ s : Nat) : Int) := by
 rw [Int.fdiv_eq_ediv_of_nonneg _ (Int.le_of_lt (Int.pow_pos (by omega)))]
 simp
variable {P : Program} {base : Prot}
end Go.Abs

/-
 nat: the order, and what stands without zeros at the end.
-/
namespace Go.Proofs.YtcbagnlidecmkaaGreatDoor.Nn
open Go Go.Abs Go.Limbs
variable {base : Prot}
set_option maxRecDepth 20000
attribute [local irreducible] vc
attribute [local simp] pureS touchV freezeL fuel shiftV u64
theorem hmix : Tryz.prog.follows .mixedOrders = true := by kernel_rfl
theorem globNone : GlobOk base gl0 := fun g c h => .junk _
theorem wrap_succ {i : Nat} (h : i < 9223372036854775807) : IntKind.i64.wrap ((i : Int) + 1) = ((i + 1 : Nat) : Int) := by
 rw [IntWalk.i64_in _ (by omega)]; omega
def ivar : AVal → Nat
 | .p (.int _ n) => n.toNat
 | _ => 0
theorem getE {α : Type} {l : List α} {i : Nat} {x : α} (h : l[i]? = some x) : ∀ hh, l[i]'hh = x := fun hh => by
 have := List.getElem?_eq_some_iff.1 h
 exact this.2
end Go.Proofs.YtcbagnlidecmkaaGreatDoor.Nn

/-
 nat: sums and differences.
-/
namespace Go.Proofs.YtcbagnlidecmkaaGreatDoor.Nn
open Go Go.Abs Go.Limbs
variable {base : Prot}
set_option maxRecDepth 20000
attribute [local irreducible] vc
attribute [local simp] pureS touchV freezeL fuel shiftV u64
def au (n : Nat) : AVal := .p (.int .u64 n)
attribute [local simp] au
def rowE (ver : Nat) (l : List Nat) : Ent := ⟨1, ver, false, l.map au, 79⟩
end Go.Proofs.YtcbagnlidecmkaaGreatDoor.Nn

/-
 nat: differences.
-/
namespace Go.Proofs.YtcbagnlidecmkaaGreatDoor.Nn
open Go Go.Abs Go.Limbs
variable {base : Prot}
set_option maxRecDepth 20000
attribute [local irreducible] vc
attribute [local simp] pureS touchV freezeL fuel shiftV u64 au
end Go.Proofs.YtcbagnlidecmkaaGreatDoor.Nn

/-
 math/bits: Mul64.
-/
namespace Go.Proofs.YtcbagnlidecmkaaGreatDoor.Nn
open Go Go.Abs Go.Limbs
variable {base : Prot}
set_option maxRecDepth 20000
attribute [local irreducible] vc
attribute [local simp] pureS touchV freezeL fuel shiftV u64 au
theorem shr_word {x s : Nat} (h : s ≤ 64) : shiftI .shr .u64 x s = some (.int .u64 (x / 2 ^ s : Nat)) := by
 have h1 : ¬ (s : Int) < 0 := by omega
 have h2 : min s IntKind.u64.bits = s := Nat.min_eq_left h
 simp only [shiftI, if_neg h1, Int.toNat_natCast, h2, fdiv_pow]
end Go.Proofs.YtcbagnlidecmkaaGreatDoor.Nn

/-
 nat: row, which adds a multiple of a number to a part of an own row of limbs.
-/
namespace Go.Proofs.YtcbagnlidecmkaaGreatDoor.Nn
open Go Go.Abs Go.Limbs
variable {base : Prot}
set_option maxRecDepth 20000
attribute [local irreducible] vc
attribute [local simp] pureS touchV freezeL fuel shiftV u64 au
def join (p s q : List Nat) : List Nat := p ++ s ++ q
def part (l : List Nat) (off n v : Nat) : List Nat := join (l.take off) (fix n v) (l.drop (off + n))
end Go.Proofs.YtcbagnlidecmkaaGreatDoor.Nn

/-
 nat: products.
-/
namespace Go.Proofs.YtcbagnlidecmkaaGreatDoor.Nn
open Go Go.Abs Go.Limbs
variable {base : Prot}
set_option maxRecDepth 20000
attribute [local irreducible] vc
attribute [local simp] pureS touchV freezeL fuel shiftV u64 au
end Go.Proofs.YtcbagnlidecmkaaGreatDoor.Nn

/-
 nat: less and more, which take a multiple of a number from a part of an own row, or add a number to it.
-/
namespace Go.Proofs.YtcbagnlidecmkaaGreatDoor.Nn
open Go Go.Abs Go.Limbs
variable {base : Prot}
set_option maxRecDepth 20000
attribute [local irreducible] vc
attribute [local simp] pureS touchV freezeL fuel shiftV u64 au
end Go.Proofs.YtcbagnlidecmkaaGreatDoor.Nn

/-
 math/bits: Len64 and LeadingZeros64.
-/
namespace Go.Proofs.YtcbagnlidecmkaaGreatDoor.Nn
open Go Go.Abs Go.Limbs
variable {base : Prot}
set_option maxRecDepth 20000
attribute [local irreducible] vc
attribute [local simp] pureS touchV freezeL fuel shiftV u64 au
def sLen64 : List PVal → Option PVal
 | [.int .u64 x] => if 0 ≤ x ∧ x.toNat < B then some (.int .i64 (size x.toNat)) else none
 | _ => none
theorem sLen64_nat {x : Nat} (hx : x < B) : sLen64 [.int .u64 x] = some (.int .i64 (size x)) := by
 show (if (0 : Int) ≤ x ∧ (x : Int).toNat < B then _ else none) = _
 rw [if_pos ⟨by omega, by simpa using hx⟩]
 simp
def tab8 : List UInt8 := [0, 1, 2, 2, 3, 3, 3, 3, 4, 4, 4, 4, 4, 4, 4, 4, 5, 5, 5, 5, 5, 5, 5, 5, 5, 5, 5, 5, 5, 5, 5, 5, 6, 6, 6, 6, 6, 6, 6, 6, 6, 6, 6, 6, 6, 6, 6, 6, 6, 6, 6, 6, 6, 6, 6, 6, 6, 6, 6, 6, 6, 6, 6, 6, 7, 7, 7, 7, 7, 7, 7, 7, 7, 7, 7, 7, 7, 7, 7, 7, 7, 7, 7, 7, 7, 7, 7, 7, 7, 7, 7, 7, 7, 7, 7, 7, 7, 7, 7, 7, 7, 7, 7, 7, 7, 7, 7, 7, 7, 7, 7, 7, 7, 7, 7, 7, 7, 7, 7, 7, 7, 7, 7, 7, 7, 7, 7, 7, 8, 8, 8, 8, 8, 8, 8, 8, 8, 8, 8, 8, 8, 8, 8, 8, 8, 8, 8, 8, 8, 8, 8, 8, 8, 8, 8, 8, 8, 8, 8, 8, 8, 8, 8, 8, 8, 8, 8, 8, 8, 8, 8, 8, 8, 8, 8, 8, 8, 8, 8, 8, 8, 8, 8, 8, 8, 8, 8, 8, 8, 8, 8, 8, 8, 8, 8, 8, 8, 8, 8, 8, 8, 8, 8, 8, 8, 8, 8, 8, 8, 8, 8, 8, 8, 8, 8, 8, 8, 8, 8, 8, 8, 8, 8, 8, 8, 8, 8, 8, 8, 8, 8, 8, 8, 8, 8, 8, 8, 8, 8, 8, 8, 8, 8, 8, 8, 8, 8, 8, 8, 8, 8, 8, 8, 8, 8, 8]
theorem tab8_get : ∀ y, y < 256 → tab8[y]? = some (UInt8.ofNat (size y)) := by decide +kernel
theorem size8 {y : Nat} (h : y < 256) : size y ≤ 8 := size_le_iff.2 (by omega)
theorem tab8_at {y : Nat} (h : y < 256) : ∃ b : UInt8, [0, 1, 2, 2, 3, 3, 3, 3, 4, 4, 4, 4, 4, 4, 4, 4, 5, 5, 5, 5, 5, 5, 5, 5, 5, 5, 5, 5, 5, 5, 5, 5, 6, 6, 6, 6, 6, 6, 6, 6, 6, 6, 6, 6, 6, 6, 6, 6, 6, 6, 6, 6, 6, 6, 6, 6, 6, 6, 6, 6, 6, 6, 6, 6, 7, 7, 7, 7, 7, 7, 7, 7, 7, 7, 7, 7, 7, 7, 7, 7, 7, 7, 7, 7, 7, 7, 7, 7, 7, 7, 7, 7, 7, 7, 7, 7, 7, 7, 7, 7, 7, 7, 7, 7, 7, 7, 7, 7, 7, 7, 7, 7, 7, 7, 7, 7, 7, 7, 7, 7, 7, 7, 7, 7, 7, 7, 7, 7, 8, 8, 8, 8, 8, 8, 8, 8, 8, 8, 8, 8, 8, 8, 8, 8, 8, 8, 8, 8, 8, 8, 8, 8, 8, 8, 8, 8, 8, 8, 8, 8, 8, 8, 8, 8, 8, 8, 8, 8, 8, 8, 8, 8, 8, 8, 8, 8, 8, 8, 8, 8, 8, 8, 8, 8, 8, 8, 8, 8, 8, 8, 8, 8, 8, 8, 8, 8, 8, 8, 8, 8, 8, 8, 8, 8, 8, 8, 8, 8, 8, 8, 8, 8, 8, 8, 8, 8, 8, 8, 8, 8, 8, 8, 8, 8, 8, 8, 8, 8, 8, 8, 8, 8, 8, 8, 8, 8, 8, 8, 8, 8, 8, 8, 8, 8, 8, 8, 8, 8, 8, 8, 8, 8, 8, 8, 8, 8][y]? = some b ∧ b.toNat = size y :=
 ⟨UInt8.ofNat (size y), tab8_get y h, by rw [UInt8.toNat_ofNat', Nat.mod_eq_of_lt (by have := size8 h; omega)]⟩
theorem size_shr {x k : Nat} (h : 2 ^ k ≤ x) : size x = size (x / 2 ^ k) + k := by
 have h0 : x / 2 ^ k ≠ 0 := by
  have : 1 ≤ x / 2 ^ k := (Nat.le_div_iff_mul_le (Nat.two_pow_pos k)).2 (by omega)
  omega
 have h1 := size_le h0
 have h2 := lt_size (x / 2 ^ k)
 have h3 := size_pos h0
 rw [show size (x / 2 ^ k) + k = (size (x / 2 ^ k) - 1 + k) + 1 by omega]
 refine size_eq ?_ ?_
 ·rw [Nat.pow_add]
  exact (Nat.le_div_iff_mul_le (Nat.two_pow_pos k)).1 h1
 ·rw [show size (x / 2 ^ k) - 1 + k + 1 = size (x / 2 ^ k) + k by omega, Nat.pow_add]
  exact (Nat.div_lt_iff_lt_mul (Nat.two_pow_pos k)).1 h2
theorem shr16 (x : Nat) : shiftI .shr .u64 x 16 = some (.int .u64 (x / 65536 : Nat)) := shr_word (x := x) (s := 16) (by omega)
theorem shr8 (x : Nat) : shiftI .shr .u64 x 8 = some (.int .u64 (x / 256 : Nat)) := shr_word (x := x) (s := 8) (by omega)
theorem shr32' (x : Nat) : shiftI .shr .u64 x 32 = some (.int .u64 (x / 4294967296 : Nat)) := shr_word (x := x) (s := 32) (by omega)
theorem wlit : IntKind.i64.wrap 8 = 8 ∧ IntKind.i64.wrap 16 = 16 ∧ IntKind.i64.wrap 24 = 24 ∧ IntKind.i64.wrap 32 = 32 ∧ IntKind.i64.wrap 40 = 40 ∧ IntKind.i64.wrap 48 = 48 ∧ IntKind.i64.wrap 56 = 56 := by decide
theorem len64_ok : FnOk Tryz.prog base 96 (pureS sLen64) := by
 refine pure_of_vc hmix Tab.none_ok globNone low96 fun args z hs hf => ?_
 unfold sLen64 at hs
 split at hs
 case h_2 => cases hs
 rename_i x
 split at hs
 case isFalse => cases hs
 rename_i hc
 cases hs
 obtain ⟨x, rfl⟩ := Int.eq_ofNat_of_zero_le hc.1
 simp only [Int.toNat_natCast] at hc ⊢
 obtain ⟨-, hx⟩ := hc
 rw [B_lit] at hx
 refine ⟨by simp [lf96], ?_⟩
 by_cases h0 : 4294967296 ≤ x
 ·obtain ⟨y0, hy0⟩ : ∃ y, y = x / 4294967296 := ⟨_, rfl⟩
  have e0 := shr32' x
  rw [← hy0] at e0
  have i0 : (4294967296 : Int) ≤ x := by omega
  have z0 : size x = size y0 + 32 := by rw [hy0]; exact size_shr (k := 32) h0
  by_cases h1 : 65536 ≤ y0
  ·obtain ⟨y1, hy1⟩ : ∃ y, y = y0 / 65536 := ⟨_, rfl⟩
   have e1 := shr16 y0
   rw [← hy1] at e1
   have i1 : (65536 : Int) ≤ y0 := by omega
   have z1 : size y0 = size y1 + 16 := by rw [hy1]; exact size_shr (k := 16) h1
   by_cases h2 : 256 ≤ y1
   ·obtain ⟨y2, hy2⟩ : ∃ y, y = y1 / 256 := ⟨_, rfl⟩
    have e2 := shr8 y1
    rw [← hy2] at e2
    have i2 : (256 : Int) ≤ y1 := by omega
    have z2 : size y1 = size y2 + 8 := by rw [hy2]; exact size_shr (k := 8) h2
    obtain ⟨b, hb, hbs⟩ := tab8_at (y := y2) (by omega)
    have hsz := size8 (y := y2) (by omega)
    have hu8 : IntKind.u8.wrap (y2 : Int) = y2 := IntWalk.u8_in _ (by omega)
    have hi8 : IntKind.i64.wrap (b.toNat : Int) = (b.toNat : Int) := IntWalk.i64_in _ (by omega)
    have hsum : IntKind.i64.wrap ((56 : Int) + b.toNat) = (size x : Int) := by rw [IntWalk.i64_in _ (by omega)]; omega
    simp [lf96, e0, i0, e1, i1, e2, i2, hsum, hu8, hb, hi8, wlit]
   ·have i2 : ¬ (256 : Int) ≤ y1 := by omega
    obtain ⟨b, hb, hbs⟩ := tab8_at (y := y1) (by omega)
    have hsz := size8 (y := y1) (by omega)
    have hu8 : IntKind.u8.wrap (y1 : Int) = y1 := IntWalk.u8_in _ (by omega)
    have hi8 : IntKind.i64.wrap (b.toNat : Int) = (b.toNat : Int) := IntWalk.i64_in _ (by omega)
    have hsum : IntKind.i64.wrap ((48 : Int) + b.toNat) = (size x : Int) := by rw [IntWalk.i64_in _ (by omega)]; omega
    simp [lf96, e0, i0, e1, i1, i2, hsum, hu8, hb, hi8, wlit]
  ·have i1 : ¬ (65536 : Int) ≤ y0 := by omega
   by_cases h2 : 256 ≤ y0
   ·obtain ⟨y2, hy2⟩ : ∃ y, y = y0 / 256 := ⟨_, rfl⟩
    have e2 := shr8 y0
    rw [← hy2] at e2
    have i2 : (256 : Int) ≤ y0 := by omega
    have z2 : size y0 = size y2 + 8 := by rw [hy2]; exact size_shr (k := 8) h2
    obtain ⟨b, hb, hbs⟩ := tab8_at (y := y2) (by omega)
    have hsz := size8 (y := y2) (by omega)
    have hu8 : IntKind.u8.wrap (y2 : Int) = y2 := IntWalk.u8_in _ (by omega)
    have hi8 : IntKind.i64.wrap (b.toNat : Int) = (b.toNat : Int) := IntWalk.i64_in _ (by omega)
    have hsum : IntKind.i64.wrap ((40 : Int) + b.toNat) = (size x : Int) := by rw [IntWalk.i64_in _ (by omega)]; omega
    simp [lf96, e0, i0, i1, e2, i2, hsum, hu8, hb, hi8, wlit]
   ·have i2 : ¬ (256 : Int) ≤ y0 := by omega
    obtain ⟨b, hb, hbs⟩ := tab8_at (y := y0) (by omega)
    have hsz := size8 (y := y0) (by omega)
    have hu8 : IntKind.u8.wrap (y0 : Int) = y0 := IntWalk.u8_in _ (by omega)
    have hi8 : IntKind.i64.wrap (b.toNat : Int) = (b.toNat : Int) := IntWalk.i64_in _ (by omega)
    have hsum : IntKind.i64.wrap ((32 : Int) + b.toNat) = (size x : Int) := by rw [IntWalk.i64_in _ (by omega)]; omega
    simp [lf96, e0, i0, i1, i2, hsum, hu8, hb, hi8, wlit]
 ·have i0 : ¬ (4294967296 : Int) ≤ x := by omega
  by_cases h1 : 65536 ≤ x
  ·obtain ⟨y1, hy1⟩ : ∃ y, y = x / 65536 := ⟨_, rfl⟩
   have e1 := shr16 x
   rw [← hy1] at e1
   have i1 : (65536 : Int) ≤ x := by omega
   have z1 : size x = size y1 + 16 := by rw [hy1]; exact size_shr (k := 16) h1
   by_cases h2 : 256 ≤ y1
   ·obtain ⟨y2, hy2⟩ : ∃ y, y = y1 / 256 := ⟨_, rfl⟩
    have e2 := shr8 y1
    rw [← hy2] at e2
    have i2 : (256 : Int) ≤ y1 := by omega
    have z2 : size y1 = size y2 + 8 := by rw [hy2]; exact size_shr (k := 8) h2
    obtain ⟨b, hb, hbs⟩ := tab8_at (y := y2) (by omega)
    have hsz := size8 (y := y2) (by omega)
    have hu8 : IntKind.u8.wrap (y2 : Int) = y2 := IntWalk.u8_in _ (by omega)
    have hi8 : IntKind.i64.wrap (b.toNat : Int) = (b.toNat : Int) := IntWalk.i64_in _ (by omega)
    have hsum : IntKind.i64.wrap ((24 : Int) + b.toNat) = (size x : Int) := by rw [IntWalk.i64_in _ (by omega)]; omega
    simp [lf96, i0, e1, i1, e2, i2, hsum, hu8, hb, hi8, wlit]
   ·have i2 : ¬ (256 : Int) ≤ y1 := by omega
    obtain ⟨b, hb, hbs⟩ := tab8_at (y := y1) (by omega)
    have hsz := size8 (y := y1) (by omega)
    have hu8 : IntKind.u8.wrap (y1 : Int) = y1 := IntWalk.u8_in _ (by omega)
    have hi8 : IntKind.i64.wrap (b.toNat : Int) = (b.toNat : Int) := IntWalk.i64_in _ (by omega)
    have hsum : IntKind.i64.wrap ((16 : Int) + b.toNat) = (size x : Int) := by rw [IntWalk.i64_in _ (by omega)]; omega
    simp [lf96, i0, e1, i1, i2, hsum, hu8, hb, hi8, wlit]
  ·have i1 : ¬ (65536 : Int) ≤ x := by omega
   by_cases h2 : 256 ≤ x
   ·obtain ⟨y2, hy2⟩ : ∃ y, y = x / 256 := ⟨_, rfl⟩
    have e2 := shr8 x
    rw [← hy2] at e2
    have i2 : (256 : Int) ≤ x := by omega
    have z2 : size x = size y2 + 8 := by rw [hy2]; exact size_shr (k := 8) h2
    obtain ⟨b, hb, hbs⟩ := tab8_at (y := y2) (by omega)
    have hsz := size8 (y := y2) (by omega)
    have hu8 : IntKind.u8.wrap (y2 : Int) = y2 := IntWalk.u8_in _ (by omega)
    have hi8 : IntKind.i64.wrap (b.toNat : Int) = (b.toNat : Int) := IntWalk.i64_in _ (by omega)
    have hsum : IntKind.i64.wrap ((8 : Int) + b.toNat) = (size x : Int) := by rw [IntWalk.i64_in _ (by omega)]; omega
    simp [lf96, i0, i1, e2, i2, hsum, hu8, hb, hi8, wlit]
   ·have i2 : ¬ (256 : Int) ≤ x := by omega
    obtain ⟨b, hb, hbs⟩ := tab8_at (y := x) (by omega)
    have hsz := size8 (y := x) (by omega)
    have hu8 : IntKind.u8.wrap (x : Int) = x := IntWalk.u8_in _ (by omega)
    have hi8 : IntKind.i64.wrap (b.toNat : Int) = (b.toNat : Int) := IntWalk.i64_in _ (by omega)
    have hi9 := hi8
    rw [hbs] at hi9
    simp [lf96, i0, i1, i2, hbs, hu8, hb, hi9]
theorem size64 {x : Nat} (hx : x < B) : size x ≤ 64 := size_le_iff.2 (by rw [pow64]; exact hx)
end Go.Proofs.YtcbagnlidecmkaaGreatDoor.Nn

/-
 math/bits: Div64.
-/
namespace Go.Proofs.YtcbagnlidecmkaaGreatDoor.Nn
open Go Go.Abs Go.Limbs
variable {base : Prot}
set_option maxRecDepth 20000
attribute [local irreducible] vc
attribute [local simp] pureS touchV freezeL fuel shiftV u64 au
end Go.Proofs.YtcbagnlidecmkaaGreatDoor.Nn

/-
 nat: a number by a limb.
-/
namespace Go.Proofs.YtcbagnlidecmkaaGreatDoor.Nn
open Go Go.Abs Go.Limbs
variable {base : Prot}
set_option maxRecDepth 20000
attribute [local irreducible] vc
attribute [local simp] pureS touchV freezeL fuel shiftV u64 au
end Go.Proofs.YtcbagnlidecmkaaGreatDoor.Nn

/-
 nat: a number times a power of two.
-/
namespace Go.Proofs.YtcbagnlidecmkaaGreatDoor.Nn
open Go Go.Abs Go.Limbs
variable {base : Prot}
set_option maxRecDepth 20000
attribute [local irreducible] vc
attribute [local simp] pureS touchV freezeL fuel shiftV u64 au
def Ttr : Tab := Tab.none
theorem Ttr_ok : TabOk Tryz.prog base Ttr := Tab.none_ok
theorem Ttr_mu (f : FuncId) (a : List AVal) (H : Heap) : Ttr.mu f a H = none := (rfl)
end Go.Proofs.YtcbagnlidecmkaaGreatDoor.Nn

/-
 nat: a number by a power of two.
-/
namespace Go.Proofs.YtcbagnlidecmkaaGreatDoor.Nn
open Go Go.Abs Go.Limbs
variable {base : Prot}
set_option maxRecDepth 20000
attribute [local irreducible] vc
attribute [local simp] pureS touchV freezeL fuel shiftV u64 au
end Go.Proofs.YtcbagnlidecmkaaGreatDoor.Nn

/-
 nat: the guess of a quotient's digit.
-/
namespace Go.Proofs.YtcbagnlidecmkaaGreatDoor.Nn
open Go Go.Abs Go.Limbs
variable {base : Prot}
set_option maxRecDepth 20000
attribute [local irreducible] vc
attribute [local simp] pureS touchV freezeL fuel shiftV u64 au
end Go.Proofs.YtcbagnlidecmkaaGreatDoor.Nn

/-
 nat: copies; what a long division does to a part of an own row.
-/
namespace Go.Proofs.YtcbagnlidecmkaaGreatDoor.Nn
open Go Go.Abs Go.Limbs
variable {base : Prot}
set_option maxRecDepth 20000
attribute [local irreducible] vc
attribute [local simp] pureS touchV freezeL fuel shiftV u64 au
def sClone : List PVal → Option PVal
 | [.lst es] => match decU es with | some l => if l.length ≤ 1000000 then some (lstP l) else none | none => none
 | _ => none
end Go.Proofs.YtcbagnlidecmkaaGreatDoor.Nn

/-
 nat: long division, its digit.
-/
namespace Go.Proofs.YtcbagnlidecmkaaGreatDoor.Nn
open Go Go.Abs Go.Limbs
variable {base : Prot}
set_option maxRecDepth 20000
attribute [local irreducible] vc
attribute [local simp] pureS touchV freezeL fuel shiftV u64 au
end Go.Proofs.YtcbagnlidecmkaaGreatDoor.Nn

/-
 nat: long division.
-/
namespace Go.Proofs.YtcbagnlidecmkaaGreatDoor.Nn
open Go Go.Abs Go.Limbs
variable {base : Prot}
set_option maxRecDepth 20000
attribute [local irreducible] vc
attribute [local simp] pureS touchV freezeL fuel shiftV u64 au
end Go.Proofs.YtcbagnlidecmkaaGreatDoor.Nn

/-
 nat: Common, and the functions that are called from outside.
-/
namespace Go.Proofs.YtcbagnlidecmkaaGreatDoor.Nn
open Go Go.Abs Go.Limbs
variable {base : Prot}
set_option maxRecDepth 20000
attribute [local irreducible] vc
attribute [local simp] pureS touchV freezeL fuel shiftV u64 au
end Go.Proofs.YtcbagnlidecmkaaGreatDoor.Nn
