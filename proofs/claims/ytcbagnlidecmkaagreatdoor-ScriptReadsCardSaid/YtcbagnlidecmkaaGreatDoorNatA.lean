/-
  Limbs as lists, and what the small functions on them compute. No conditions beyond the lemmas' own hypotheses.
-/
import Derived.Lib.ItoaNum
import Derived.Test.YtcbagnlidecmkaaGreatDoorAbsThree
import Derived.Laws.Externs
import Derived.IntWalk
import Derived.Test.YtcbagnlidecmkaaGreatDoorNatL
import Derived.Lib.Mul64
set_option linter.unusedSimpArgs false
set_option linter.unnecessarySimpa false
set_option linter.unusedVariables false
set_option linter.constructorNameAsVariable false

/-
 LIMBS, part A: natural numbers as rows of limbs, the lowest first. No program in sight.
-/
namespace Go.Limbs
def B : Nat := 18446744073709551616
theorem B_pos : 0 < B := by decide
theorem B_one : 1 < B := by decide
def val : List Nat → Nat
 | [] => 0
 | x :: r => x + B * val r
def Wf (l : List Nat) : Prop := ∀ x ∈ l, x < B
def limbs (n : Nat) : List Nat := if _h : n = 0 then [] else n % B :: limbs (n / B)
termination_by n
decreasing_by exact Nat.div_lt_self (by omega) B_one
def fix : Nat → Nat → List Nat
 | 0, _ => []
 | k + 1, n => n % B :: fix k (n / B)
def Canon (l : List Nat) : Prop := Wf l ∧ l.getLast? ≠ some 0
theorem limbs_zero : limbs 0 = [] := by rw [limbs]; simp
theorem limbs_pos {n : Nat} (h : n ≠ 0) : limbs n = n % B :: limbs (n / B) := by rw [limbs]; simp [h]
theorem Wf.nil : Wf [] := fun x h => by simp at h
theorem Wf.cons {x : Nat} {l : List Nat} (h : x < B) (r : Wf l) : Wf (x :: l) := fun y hy => by
 rcases List.mem_cons.1 hy with rfl | h1
 ·exact h
 ·exact r y h1
theorem Wf.head {x : Nat} {l : List Nat} (h : Wf (x :: l)) : x < B := h x (by simp)
theorem Wf.tail {x : Nat} {l : List Nat} (h : Wf (x :: l)) : Wf l := fun y hy => h y (by simp [hy])
theorem Wf.append {a b : List Nat} (h : Wf a) (r : Wf b) : Wf (a ++ b) := fun x hx => by
 rcases List.mem_append.1 hx with h1 | h1
 ·exact h x h1
 ·exact r x h1
theorem Wf.left {a b : List Nat} (h : Wf (a ++ b)) : Wf a := fun x hx => h x (by simp [hx])
theorem Wf.right {a b : List Nat} (h : Wf (a ++ b)) : Wf b := fun x hx => h x (by simp [hx])
theorem Wf.take {a : List Nat} (h : Wf a) (n : Nat) : Wf (a.take n) := fun x hx => h x (List.mem_of_mem_take hx)
theorem Wf.drop {a : List Nat} (h : Wf a) (n : Nat) : Wf (a.drop n) := fun x hx => h x (List.mem_of_mem_drop hx)
theorem Wf.get {a : List Nat} (h : Wf a) {i x : Nat} (hx : a[i]? = some x) : x < B := h x (List.mem_of_getElem? hx)
theorem Wf.set {a : List Nat} (h : Wf a) (i : Nat) {x : Nat} (hx : x < B) : Wf (a.set i x) := fun y hy => by
 rcases List.mem_or_eq_of_mem_set hy with h1 | h1
 ·exact h y h1
 ·subst h1; exact hx
theorem val_nil : val [] = 0 := rfl
theorem val_cons (x : Nat) (r : List Nat) : val (x :: r) = x + B * val r := rfl
theorem val_append : ∀ (a b : List Nat), val (a ++ b) = val a + B ^ a.length * val b
 | [], b => by simp [val]
 | x :: r, b => by
  rw [List.cons_append, val_cons, val_append r b, val_cons, List.length_cons, Nat.pow_succ]
  grind
theorem val_snoc (a : List Nat) (x : Nat) : val (a ++ [x]) = val a + B ^ a.length * x := by rw [val_append]; simp [val]
theorem val_lt : ∀ {a : List Nat}, Wf a → val a < B ^ a.length
 | [], _ => by simp [val]
 | x :: r, h => by
  have h1 := h.head
  have h2 := val_lt h.tail
  rw [val_cons, List.length_cons, Nat.pow_succ]
  have h3 : B * (val r + 1) ≤ B * B ^ r.length := Nat.mul_le_mul_left _ h2
  rw [Nat.mul_add] at h3
  rw [Nat.mul_comm (B ^ r.length)]
  omega
theorem wf_limbs : ∀ n : Nat, Wf (limbs n) := by
 intro n
 induction n using Nat.strongRecOn with
 | _ n ih =>
  by_cases h : n = 0
  ·subst h; rw [limbs_zero]; exact Wf.nil
  ·rw [limbs_pos h]
   exact Wf.cons (Nat.mod_lt _ B_pos) (ih _ (Nat.div_lt_self (by omega) B_one))
theorem val_limbs : ∀ n : Nat, val (limbs n) = n := by
 intro n
 induction n using Nat.strongRecOn with
 | _ n ih =>
  by_cases h : n = 0
  ·subst h; rw [limbs_zero]; rfl
  ·rw [limbs_pos h, val_cons, ih _ (Nat.div_lt_self (by omega) B_one)]
   exact Nat.mod_add_div n B
theorem limbs_eq_nil {n : Nat} : limbs n = [] ↔ n = 0 := ⟨fun h => by rw [← val_limbs n, h]; rfl, fun h => by rw [h, limbs_zero]⟩
theorem Canon.tail {x : Nat} {l : List Nat} (h : Canon (x :: l)) : Canon l := by
 refine ⟨h.1.tail, fun e => h.2 ?_⟩
 rw [List.getLast?_cons, e]; rfl
theorem limbs_val : ∀ {a : List Nat}, Canon a → limbs (val a) = a
 | [], _ => by rw [val_nil, limbs_zero]
 | x :: r, h => by
  have hx := h.1.head
  have ih := limbs_val h.tail
  have hB := B_pos
  rw [val_cons]
  by_cases hz : x + B * val r = 0
  ·have hr : val r = 0 := by
    have h3 : B * val r = 0 := by omega
    rcases Nat.mul_eq_zero.1 h3 with h4 | h4
    ·omega
    ·exact h4
   have hx0 : x = 0 := by omega
   have hr2 : r = [] := by rw [← ih, hr, limbs_zero]
   subst hr2 hx0
   exact absurd rfl h.2
  ·rw [limbs_pos hz, Nat.add_mul_mod_self_left, Nat.mod_eq_of_lt hx, Nat.add_mul_div_left _ _ hB, Nat.div_eq_of_lt hx, Nat.zero_add, ih]
theorem canon_limbs (n : Nat) : Canon (limbs n) := by
 refine ⟨wf_limbs n, ?_⟩
 induction n using Nat.strongRecOn with
 | _ n ih =>
  by_cases h : n = 0
  ·subst h; rw [limbs_zero]; simp
  ·rw [limbs_pos h, List.getLast?_cons]
   have hi := ih _ (Nat.div_lt_self (Nat.pos_of_ne_zero h) B_one)
   intro e
   cases hl : (limbs (n / B)).getLast? with
   | some y =>
    rw [hl] at e hi
    exact hi e
   | none =>
    rw [hl] at e
    have h1 : limbs (n / B) = [] := List.getLast?_eq_none_iff.1 hl
    have h2 := limbs_eq_nil.1 h1
    have h3 : n % B = 0 := by simpa using e
    have h4 := Nat.mod_add_div n B
    rw [h2, h3] at h4
    omega
def len (n : Nat) : Nat := (limbs n).length
theorem lt_len (n : Nat) : n < B ^ len n := by
 have := val_lt (wf_limbs n)
 rwa [val_limbs] at this
theorem len_le {n k : Nat} (h : n < B ^ k) : len n ≤ k := by
 unfold len
 induction k generalizing n with
 | zero =>
  have : n = 0 := by simpa using h
  subst this
  simp [limbs_zero]
 | succ k ih =>
  by_cases hn : n = 0
  ·subst hn; simp [limbs_zero]
  ·rw [limbs_pos hn]
   have h2 : n / B < B ^ k := by
    rw [Nat.div_lt_iff_lt_mul B_pos, ← Nat.pow_succ]; exact h
   have := ih h2
   simp only [List.length_cons]
   omega
theorem Bpow_le {m n : Nat} (h : m ≤ n) : B ^ m ≤ B ^ n := Nat.pow_le_pow_right B_pos h
theorem len_le_iff {n k : Nat} : len n ≤ k ↔ n < B ^ k := ⟨fun h => Nat.lt_of_lt_of_le (lt_len n) (Bpow_le h), len_le⟩
theorem len_mono {m n : Nat} (h : m ≤ n) : len m ≤ len n := len_le_iff.2 (Nat.lt_of_le_of_lt h (lt_len n))
theorem len_eq_zero {n : Nat} : len n = 0 ↔ n = 0 := by rw [len, List.length_eq_zero_iff, limbs_eq_nil]
theorem len_zero : len 0 = 0 := len_eq_zero.2 rfl
theorem drop_get {a : List Nat} {i x : Nat} (h : a[i]? = some x) : a.drop i = x :: a.drop (i + 1) := by
 obtain ⟨h1, rfl⟩ := List.getElem?_eq_some_iff.1 h
 exact List.drop_eq_getElem_cons h1
theorem take_get {a : List Nat} {i x : Nat} (h : a[i]? = some x) : a.take (i + 1) = a.take i ++ [x] := by
 rw [List.take_add_one, h]; rfl
theorem val_take_succ {a : List Nat} {i x : Nat} (h : a[i]? = some x) : val (a.take (i + 1)) = val (a.take i) + B ^ i * x := by
 have hl : i ≤ a.length := Nat.le_of_lt (List.getElem?_eq_some_iff.1 h).1
 rw [take_get h, val_snoc, List.length_take, Nat.min_eq_left hl]
theorem val_drop {a : List Nat} {i x : Nat} (h : a[i]? = some x) : val (a.drop i) = x + B * val (a.drop (i + 1)) := by rw [drop_get h, val_cons]
theorem trim_step {a : List Nat} {n : Nat} (h0 : a[n]? = some 0) : val (a.take (n + 1)) = val (a.take n) := by rw [val_take_succ h0]; simp
theorem trim_done {a : List Nat} {n : Nat} (hw : Wf a) (hv : val (a.take n) = val a) (h0 : n = 0 ∨ ∃ x, a[n - 1]? = some x ∧ x ≠ 0) : a.take n = limbs (val a) := by
 rw [← hv]
 refine (limbs_val ⟨hw.take n, ?_⟩).symm
 rcases h0 with rfl | ⟨x, hx, hx0⟩
 ·simp
 ·intro e
  by_cases hn : n = 0
  ·subst hn; simp at e
  ·have h1 : n - 1 + 1 = n := by omega
   have h2 := take_get hx
   rw [h1] at h2
   rw [h2] at e
   simp at e
   exact hx0 e
end Go.Limbs

/-
 LIMBS, part B: what one round of each loop does to the numbers. No program in sight.
-/
namespace Go.Limbs
theorem pow64 : (2 : Nat) ^ 64 = B := by decide
theorem two_split {s : Nat} (h : s ≤ 64) : 2 ^ s * 2 ^ (64 - s) = B := by rw [← Nat.pow_add, show s + (64 - s) = 64 by omega, pow64]
theorem shl_high {x s : Nat} (h : s ≤ 64) : x * 2 ^ s / B = x / 2 ^ (64 - s) := by
 rw [← two_split h, Nat.mul_comm (2 ^ s) (2 ^ (64 - s)), Nat.mul_div_mul_right _ _ (Nat.two_pow_pos s)]
theorem or_low {h y s : Nat} (hh : h < 2 ^ s) : h ||| y * 2 ^ s = h + y * 2 ^ s := by
 rw [Nat.or_comm, Nat.add_comm, ← Nat.shiftLeft_eq, Nat.shiftLeft_add_eq_or_of_lt hh]
theorem div_step {a q r x k : Nat} (h : a = k * q + r) : x + B * a = k * ((r * B + x) / k + B * q) + (r * B + x) % k := by
 have e := Nat.mod_add_div (r * B + x) k
 generalize (r * B + x) / k = m at *
 generalize (r * B + x) % k = d at *
 grind
theorem div_lt {r x k : Nat} (hr : r < k) (hx : x < B) : (r * B + x) / k < B := by
 rw [Nat.div_lt_iff_lt_mul (by omega)]
 have : (r + 1) * B ≤ k * B := Nat.mul_le_mul_right _ hr
 rw [Nat.add_mul, Nat.one_mul, Nat.mul_comm k] at this
 omega
theorem div_done {a q r k : Nat} (h : a = k * q + r) (hr : r < k) : q = a / k ∧ r = a % k := by
 subst h
 rw [Nat.mul_add_div (by omega), Nat.div_eq_of_lt hr, Nat.mul_add_mod, Nat.mod_eq_of_lt hr]
 exact ⟨by omega, rfl⟩
end Go.Limbs

/-
 LIMBS, part C: the digits of a quotient. No program in sight.
-/
namespace Go.Limbs
def size (n : Nat) : Nat := if n = 0 then 0 else n.log2 + 1
theorem lt_size (n : Nat) : n < 2 ^ size n := by
 unfold size
 split
 ·omega
 ·exact Nat.lt_log2_self
theorem size_le {n : Nat} (h : n ≠ 0) : 2 ^ (size n - 1) ≤ n := by
 unfold size
 rw [if_neg h]
 exact Nat.log2_self_le h
theorem size_zero : size 0 = 0 := rfl
theorem size_pos {n : Nat} (h : n ≠ 0) : 0 < size n := by unfold size; rw [if_neg h]; omega
theorem size_le_iff {n k : Nat} : size n ≤ k ↔ n < 2 ^ k := by
 constructor
 ·intro h
  exact Nat.lt_of_lt_of_le (lt_size n) (Nat.pow_le_pow_right (by omega) h)
 ·intro h
  by_cases hn : n = 0
  ·subst hn; simp [size_zero]
  ·have h1 := size_le hn
   have h2 : 2 ^ (size n - 1) < 2 ^ k := by omega
   have h3 := (Nat.pow_lt_pow_iff_right (by omega : 1 < 2)).1 h2
   omega
theorem size_eq {n k : Nat} (h1 : 2 ^ k ≤ n) (h2 : n < 2 ^ (k + 1)) : size n = k + 1 := by
 have h3 := size_le_iff.2 h2
 have h4 : ¬ size n ≤ k := fun h => by have := size_le_iff.1 h; omega
 omega
end Go.Limbs

/-
 The numeral of a number, out of its chunks of nineteen digits.
-/
namespace Go.Limbs
open Go.Lib
def digit (d : Nat) : UInt8 := UInt8.ofNat (48 + d)
def padD : Nat → Nat → List UInt8
 | 0, _ => []
 | k + 1, r => padD k (r / 10) ++ [digit (r % 10)]
theorem dec_ten {u : Nat} (h : ¬ u < 10) : decDigits u = decDigits (u / 10) ++ [digit (u % 10)] := by
 rw [decDigits, dif_neg h]; rfl
theorem padD_zero : ∀ k, padD k 0 = List.replicate k 48
 | 0 => rfl
 | k + 1 => by
  simp only [padD, Nat.zero_div, Nat.zero_mod, padD_zero k]
  rw [List.replicate_succ']
  rfl
theorem pad_dec : ∀ (k r : Nat), r < 10 ^ (k + 1) → (decDigits r).length ≤ k + 1 ∧ List.replicate (k + 1 - (decDigits r).length) 48 ++ decDigits r = padD (k + 1) r
 | 0, r, h => by
  have h : r < 10 := by simpa using h
  rw [decDigits_one h]
  simp [padD, digit, Nat.mod_eq_of_lt h]
 | k + 1, r, h => by
  by_cases h10 : r < 10
  ·rw [decDigits_one h10]
   refine ⟨by simp, ?_⟩
   show _ = padD (k + 1) (r / 10) ++ [digit (r % 10)]
   rw [Nat.div_eq_of_lt h10, Nat.mod_eq_of_lt h10, padD_zero]
   simp [digit]
  ·have hr : r / 10 < 10 ^ (k + 1) := by
    rw [Nat.pow_succ] at h
    exact Nat.div_lt_of_lt_mul (by rw [Nat.mul_comm]; exact h)
   obtain ⟨ih1, ih2⟩ := pad_dec k (r / 10) hr
   rw [dec_ten h10]
   refine ⟨by simp; omega, ?_⟩
   show _ = padD (k + 1) (r / 10) ++ [digit (r % 10)]
   rw [← ih2]
   simp only [List.length_append, List.length_cons, List.length_nil, List.append_assoc]
   congr 2
   omega
end Go.Limbs

/-
 LIMBS, part D: rows of limbs as pure values; the carry of Go's bits.
-/
namespace Go.Abs
open Go.Limbs
def u64 (n : Nat) : PVal := .int .u64 n
def lstP (l : List Nat) : PVal := .lst (l.map u64)
def numP (n : Nat) : PVal := lstP (limbs n)
def decU : List PVal → Option (List Nat)
 | [] => some []
 | .int .u64 z :: r => if 0 ≤ z ∧ z.toNat < B then (match decU r with | some l => some (z.toNat :: l) | none => none) else none
 | _ :: _ => none
theorem decU_map : ∀ {l : List Nat}, Wf l → decU (l.map u64) = some l
 | [], _ => rfl
 | x :: r, h => by
  have hx := h.head
  have : (0 : Int) ≤ (x : Int) ∧ (x : Int).toNat < B := by simpa using hx
  simp only [List.map_cons, u64, decU, if_pos this]
  rw [decU_map h.tail]
  simp
theorem decU_some : ∀ {es : List PVal} {l : List Nat}, decU es = some l → es = l.map u64 ∧ Wf l
 | [], l, h => by simp [decU] at h; subst h; exact ⟨rfl, Wf.nil⟩
 | x :: r, l, h => by
  unfold decU at h
  split at h
  ·rename_i e; cases e
  ·rename_i z r' e
   cases e
   split at h
   ·rename_i hz
    cases hd : decU r with
    | none => rw [hd] at h; cases h
    | some l' =>
     rw [hd] at h
     cases h
     obtain ⟨h1, h2⟩ := decU_some hd
     obtain ⟨m, rfl⟩ := Int.eq_ofNat_of_zero_le hz.1
     exact ⟨by rw [h1]; simp [u64], Wf.cons hz.2 h2⟩
   ·cases h
  ·cases h
def decN (es : List PVal) : Option Nat := match decU es with
 | some l => if limbs (val l) = l ∧ l.length ≤ 100000 then some (val l) else none
 | none => none
theorem B_lit : B = 18446744073709551616 := rfl
theorem wrap_u {n : Nat} (h : n < B) : IntKind.u64.wrap (n : Int) = n := by rw [B_lit] at h; exact IntWalk.u64_in _ (by omega)
theorem wrap_um (n : Nat) : IntKind.u64.wrap (n : Int) = ((n % B : Nat) : Int) := by rw [B_lit, IntKind.wrap_u64]; omega
theorem wrap_u_add {a b : Nat} (h : a + b < B) : IntKind.u64.wrap ((a : Int) + b) = ((a + b : Nat) : Int) := by rw [← Int.natCast_add]; exact wrap_u h
theorem wrap_u_mul (a b : Nat) : IntKind.u64.wrap ((a : Int) * b) = (((a * b) % B : Nat) : Int) := by rw [← Int.natCast_mul]; exact wrap_um _
theorem bv_ofInt (a : Nat) : BitVec.ofInt 64 (a : Int) = BitVec.ofNat 64 a := BitVec.ofInt_natCast 64 a
theorem or_word {a b : Nat} (ha : a < B) (hb : b < B) : (BitVec.ofInt 64 (a : Int) ||| BitVec.ofInt 64 (b : Int)).toNat = a ||| b := by
 rw [bv_ofInt, bv_ofInt, BitVec.toNat_or, BitVec.toNat_ofNat, BitVec.toNat_ofNat, pow64, Nat.mod_eq_of_lt ha, Nat.mod_eq_of_lt hb]
theorem and_word {a b : Nat} (ha : a < B) (hb : b < B) : (BitVec.ofInt 64 (a : Int) &&& BitVec.ofInt 64 (b : Int)).toNat = a &&& b := by
 rw [bv_ofInt, bv_ofInt, BitVec.toNat_and, BitVec.toNat_ofNat, BitVec.toNat_ofNat, pow64, Nat.mod_eq_of_lt ha, Nat.mod_eq_of_lt hb]
theorem or_lt {a b : Nat} (ha : a < B) (hb : b < B) : a ||| b < B := by rw [← pow64] at *; exact Nat.or_lt_two_pow ha hb
theorem or_wrap {a b : Nat} (ha : a < B) (hb : b < B) : IntKind.u64.wrap ((BitVec.ofInt 64 (a : Int) ||| BitVec.ofInt 64 (b : Int)).toNat : Int) = ((a ||| b : Nat) : Int) := by
 rw [or_word ha hb]; exact wrap_u (or_lt ha hb)
theorem and_wrap {a b : Nat} (ha : a < B) (hb : b < B) : IntKind.u64.wrap ((BitVec.ofInt 64 (a : Int) &&& BitVec.ofInt 64 (b : Int)).toNat : Int) = ((a &&& b : Nat) : Int) := by
 rw [and_word ha hb]; exact wrap_u (Nat.lt_of_le_of_lt Nat.and_le_left ha)
theorem fdiv_pow (a s : Nat) : (a : Int).fdiv (2 ^ s) = ((a / 2 ^ s : Nat) : Int) := by
 rw [Int.fdiv_eq_ediv_of_nonneg _ (Int.le_of_lt (Int.pow_pos (by omega)))]
 simp
variable {P : Program} {base : Prot}
end Go.Abs

/-
 nat: the order, and what stands without zeros at the end.
-/
namespace Go.Proofs.YtcbagnlidecmkaaGreatDoor.Nn
open Go Go.Abs Go.Limbs
variable {base : Prot}
set_option maxRecDepth 20000
attribute [local irreducible] vc
attribute [local simp] pureS touchV freezeL fuel shiftV u64
theorem hmix : Tryz.prog.follows .mixedOrders = true := by kernel_rfl
theorem globNone : GlobOk base gl0 := fun g c h => .junk _
theorem wrap_succ {i : Nat} (h : i < 9223372036854775807) : IntKind.i64.wrap ((i : Int) + 1) = ((i + 1 : Nat) : Int) := by
 rw [IntWalk.i64_in _ (by omega)]; omega
theorem wrap_pred {i : Nat} (h : 0 < i) (h2 : i < 9223372036854775807) : IntKind.i64.wrap ((i : Int) - 1) = ((i - 1 : Nat) : Int) := by
 rw [IntWalk.i64_in _ (by omega)]; omega
def ivar : AVal → Nat
 | .p (.int _ n) => n.toNat
 | _ => 0
def dvar : AVal → Nat
 | .p (.int _ n) => (n + 1).toNat
 | _ => 0
theorem getE {α : Type} {l : List α} {i : Nat} {x : α} (h : l[i]? = some x) : ∀ hh, l[i]'hh = x := fun hh => by
 have := List.getElem?_eq_some_iff.1 h
 exact this.2
theorem maxLen_ge : 1000000000 ≤ maxLen := by decide
def sTrim : List PVal → Option PVal
 | [.lst es] => match decU es with | some l => if l.length ≤ 1000000 then some (numP (val l)) else none | none => none
 | _ => none
theorem sTrim_map {l : List Nat} (h : Wf l) (h2 : l.length ≤ 1000000) : sTrim [.lst (l.map u64)] = some (.lst ((limbs (val l)).map u64)) := by
 simp only [sTrim, decU_map h, if_pos h2]; rfl
def sValid : List PVal → Option PVal
 | [.lst es] => match decU es with | some l => some (.bool (decide (l.length ≤ 64) && decide (limbs (val l) = l))) | none => none
 | _ => none
theorem canon_last {l : List Nat} (h : Wf l) : limbs (val l) = l ↔ l.getLast? ≠ some 0 := by
 constructor
 ·intro e
  rw [← e]
  exact (canon_limbs _).2
 ·intro e
  exact limbs_val ⟨h, e⟩
end Go.Proofs.YtcbagnlidecmkaaGreatDoor.Nn

/-
 nat: sums and differences.
-/
namespace Go.Proofs.YtcbagnlidecmkaaGreatDoor.Nn
open Go Go.Abs Go.Limbs
variable {base : Prot}
set_option maxRecDepth 20000
attribute [local irreducible] vc
attribute [local simp] pureS touchV freezeL fuel shiftV u64
def au (n : Nat) : AVal := .p (.int .u64 n)
attribute [local simp] au
def rowE (ver : Nat) (l : List Nat) : Ent := ⟨1, ver, false, l.map au, 79⟩
theorem mapO_au (H : Heap) (n : Nat) : ∀ l : List Nat, mapO (resolveV H n) (l.map au) = some (l.map u64)
 | [] => rfl
 | x :: r => by simp [au, mapO, resolveV, mapO_au H n r]
theorem mapO_au_take (H : Heap) (n k : Nat) (l : List Nat) : mapO (resolveV H n) (List.take k (l.map au)) = some (List.take k (l.map u64)) := by rw [← List.map_take, mapO_au, List.map_take]
theorem touch_au (H : Heap) (n : Nat) : ∀ l : List Nat, (l.map au).flatMap (touchV H n) = []
 | [] => rfl
 | x :: r => by rw [List.map_cons, List.flatMap_cons, touch_au H n r]; cases n <;> simp [au, touchV]
theorem mul_cap (n : Nat) (h : n ≤ 1000000) : n * 8 ≤ 140737488355328 ∧ n ≤ maxLen := ⟨by omega, Nat.le_trans h (Nat.le_trans (by omega) maxLen_ge)⟩
theorem mul_capI (n : Nat) (h : n ≤ 1000000) : (n : Int) * 8 ≤ 140737488355328 ∧ (n : Int) ≤ maxLen := by
 have := mul_cap n h
 omega
end Go.Proofs.YtcbagnlidecmkaaGreatDoor.Nn

/-
 nat: differences.
-/
namespace Go.Proofs.YtcbagnlidecmkaaGreatDoor.Nn
open Go Go.Abs Go.Limbs
variable {base : Prot}
set_option maxRecDepth 20000
attribute [local irreducible] vc
attribute [local simp] pureS touchV freezeL fuel shiftV u64 au
end Go.Proofs.YtcbagnlidecmkaaGreatDoor.Nn

/-
 math/bits: Mul64.
-/
namespace Go.Proofs.YtcbagnlidecmkaaGreatDoor.Nn
open Go Go.Abs Go.Limbs
variable {base : Prot}
set_option maxRecDepth 20000
attribute [local irreducible] vc
attribute [local simp] pureS touchV freezeL fuel shiftV u64 au
def lo32 (x : Nat) : Nat := x % 4294967296
def hi32 (x : Nat) : Nat := x / 4294967296
theorem low_mask {x : Nat} (hx : x < B) : IntKind.u64.wrap ((BitVec.ofNat IntKind.u64.bits x &&& 4294967295#IntKind.u64.bits).toNat : Int) = (lo32 x : Int) := by
 have h := and_wrap (a := x) (b := 4294967295) hx (by decide)
 rw [show (4294967295 : Nat) = 2 ^ 32 - 1 from rfl, Nat.and_two_pow_sub_one_eq_mod, bv_ofInt, bv_ofInt] at h
 exact h
theorem or_bits {x y : Nat} (hx : x < B) (hy : y < B) : IntKind.u64.wrap ((BitVec.ofNat IntKind.u64.bits x ||| BitVec.ofNat IntKind.u64.bits y).toNat : Int) = ((x ||| y : Nat) : Int) := by
 have h := or_wrap hx hy
 rw [bv_ofInt, bv_ofInt] at h
 exact h
theorem shr_word {x s : Nat} (h : s ≤ 64) : shiftI .shr .u64 x s = some (.int .u64 (x / 2 ^ s : Nat)) := by
 have h1 : ¬ (s : Int) < 0 := by omega
 have h2 : min s IntKind.u64.bits = s := Nat.min_eq_left h
 simp only [shiftI, if_neg h1, Int.toNat_natCast, h2, fdiv_pow]
theorem shr32 (x : Nat) : shiftI .shr .u64 x 32 = some (.int .u64 (hi32 x)) := shr_word (x := x) (s := 32) (by omega)
theorem shl_word {x s : Nat} (h : s ≤ 64) : shiftI .shl .u64 x s = some (.int .u64 (x * 2 ^ s % B : Nat)) := by
 have h1 : ¬ (s : Int) < 0 := by omega
 have h2 : min s IntKind.u64.bits = s := Nat.min_eq_left h
 simp only [shiftI, if_neg h1, Int.toNat_natCast, h2]
 have h3 : (x : Int) * 2 ^ s = ((x * 2 ^ s : Nat) : Int) := by simp
 rw [h3, wrap_um]
end Go.Proofs.YtcbagnlidecmkaaGreatDoor.Nn

/-
 nat: row, which adds a multiple of a number to a part of an own row of limbs.
-/
namespace Go.Proofs.YtcbagnlidecmkaaGreatDoor.Nn
open Go Go.Abs Go.Limbs
variable {base : Prot}
set_option maxRecDepth 20000
attribute [local irreducible] vc
attribute [local simp] pureS touchV freezeL fuel shiftV u64 au
def join (p s q : List Nat) : List Nat := p ++ s ++ q
def part (l : List Nat) (off n v : Nat) : List Nat := join (l.take off) (fix n v) (l.drop (off + n))
end Go.Proofs.YtcbagnlidecmkaaGreatDoor.Nn

/-
 nat: products.
-/
namespace Go.Proofs.YtcbagnlidecmkaaGreatDoor.Nn
open Go Go.Abs Go.Limbs
variable {base : Prot}
set_option maxRecDepth 20000
attribute [local irreducible] vc
attribute [local simp] pureS touchV freezeL fuel shiftV u64 au
end Go.Proofs.YtcbagnlidecmkaaGreatDoor.Nn

/-
 nat: less and more, which take a multiple of a number from a part of an own row, or add a number to it.
-/
namespace Go.Proofs.YtcbagnlidecmkaaGreatDoor.Nn
open Go Go.Abs Go.Limbs
variable {base : Prot}
set_option maxRecDepth 20000
attribute [local irreducible] vc
attribute [local simp] pureS touchV freezeL fuel shiftV u64 au
end Go.Proofs.YtcbagnlidecmkaaGreatDoor.Nn

/-
 math/bits: Len64 and LeadingZeros64.
-/
namespace Go.Proofs.YtcbagnlidecmkaaGreatDoor.Nn
open Go Go.Abs Go.Limbs
variable {base : Prot}
set_option maxRecDepth 20000
attribute [local irreducible] vc
attribute [local simp] pureS touchV freezeL fuel shiftV u64 au
def sLen64 : List PVal → Option PVal
 | [.int .u64 x] => if 0 ≤ x ∧ x.toNat < B then some (.int .i64 (size x.toNat)) else none
 | _ => none
theorem sLen64_nat {x : Nat} (hx : x < B) : sLen64 [.int .u64 x] = some (.int .i64 (size x)) := by
 show (if (0 : Int) ≤ x ∧ (x : Int).toNat < B then _ else none) = _
 rw [if_pos ⟨by omega, by simpa using hx⟩]
 simp
def tab8 : List UInt8 := [0, 1, 2, 2, 3, 3, 3, 3, 4, 4, 4, 4, 4, 4, 4, 4, 5, 5, 5, 5, 5, 5, 5, 5, 5, 5, 5, 5, 5, 5, 5, 5, 6, 6, 6, 6, 6, 6, 6, 6, 6, 6, 6, 6, 6, 6, 6, 6, 6, 6, 6, 6, 6, 6, 6, 6, 6, 6, 6, 6, 6, 6, 6, 6, 7, 7, 7, 7, 7, 7, 7, 7, 7, 7, 7, 7, 7, 7, 7, 7, 7, 7, 7, 7, 7, 7, 7, 7, 7, 7, 7, 7, 7, 7, 7, 7, 7, 7, 7, 7, 7, 7, 7, 7, 7, 7, 7, 7, 7, 7, 7, 7, 7, 7, 7, 7, 7, 7, 7, 7, 7, 7, 7, 7, 7, 7, 7, 7, 8, 8, 8, 8, 8, 8, 8, 8, 8, 8, 8, 8, 8, 8, 8, 8, 8, 8, 8, 8, 8, 8, 8, 8, 8, 8, 8, 8, 8, 8, 8, 8, 8, 8, 8, 8, 8, 8, 8, 8, 8, 8, 8, 8, 8, 8, 8, 8, 8, 8, 8, 8, 8, 8, 8, 8, 8, 8, 8, 8, 8, 8, 8, 8, 8, 8, 8, 8, 8, 8, 8, 8, 8, 8, 8, 8, 8, 8, 8, 8, 8, 8, 8, 8, 8, 8, 8, 8, 8, 8, 8, 8, 8, 8, 8, 8, 8, 8, 8, 8, 8, 8, 8, 8, 8, 8, 8, 8, 8, 8, 8, 8, 8, 8, 8, 8, 8, 8, 8, 8, 8, 8, 8, 8, 8, 8, 8, 8]
theorem tab8_get : ∀ y, y < 256 → tab8[y]? = some (UInt8.ofNat (size y)) := by decide +kernel
theorem size8 {y : Nat} (h : y < 256) : size y ≤ 8 := size_le_iff.2 (by omega)
theorem tab8_at {y : Nat} (h : y < 256) : ∃ b : UInt8, [0, 1, 2, 2, 3, 3, 3, 3, 4, 4, 4, 4, 4, 4, 4, 4, 5, 5, 5, 5, 5, 5, 5, 5, 5, 5, 5, 5, 5, 5, 5, 5, 6, 6, 6, 6, 6, 6, 6, 6, 6, 6, 6, 6, 6, 6, 6, 6, 6, 6, 6, 6, 6, 6, 6, 6, 6, 6, 6, 6, 6, 6, 6, 6, 7, 7, 7, 7, 7, 7, 7, 7, 7, 7, 7, 7, 7, 7, 7, 7, 7, 7, 7, 7, 7, 7, 7, 7, 7, 7, 7, 7, 7, 7, 7, 7, 7, 7, 7, 7, 7, 7, 7, 7, 7, 7, 7, 7, 7, 7, 7, 7, 7, 7, 7, 7, 7, 7, 7, 7, 7, 7, 7, 7, 7, 7, 7, 7, 8, 8, 8, 8, 8, 8, 8, 8, 8, 8, 8, 8, 8, 8, 8, 8, 8, 8, 8, 8, 8, 8, 8, 8, 8, 8, 8, 8, 8, 8, 8, 8, 8, 8, 8, 8, 8, 8, 8, 8, 8, 8, 8, 8, 8, 8, 8, 8, 8, 8, 8, 8, 8, 8, 8, 8, 8, 8, 8, 8, 8, 8, 8, 8, 8, 8, 8, 8, 8, 8, 8, 8, 8, 8, 8, 8, 8, 8, 8, 8, 8, 8, 8, 8, 8, 8, 8, 8, 8, 8, 8, 8, 8, 8, 8, 8, 8, 8, 8, 8, 8, 8, 8, 8, 8, 8, 8, 8, 8, 8, 8, 8, 8, 8, 8, 8, 8, 8, 8, 8, 8, 8, 8, 8, 8, 8, 8, 8][y]? = some b ∧ b.toNat = size y :=
 ⟨UInt8.ofNat (size y), tab8_get y h, by rw [UInt8.toNat_ofNat', Nat.mod_eq_of_lt (by have := size8 h; omega)]⟩
theorem size_shr {x k : Nat} (h : 2 ^ k ≤ x) : size x = size (x / 2 ^ k) + k := by
 have h0 : x / 2 ^ k ≠ 0 := by
  have : 1 ≤ x / 2 ^ k := (Nat.le_div_iff_mul_le (Nat.two_pow_pos k)).2 (by omega)
  omega
 have h1 := size_le h0
 have h2 := lt_size (x / 2 ^ k)
 have h3 := size_pos h0
 rw [show size (x / 2 ^ k) + k = (size (x / 2 ^ k) - 1 + k) + 1 by omega]
 refine size_eq ?_ ?_
 ·rw [Nat.pow_add]
  exact (Nat.le_div_iff_mul_le (Nat.two_pow_pos k)).1 h1
 ·rw [show size (x / 2 ^ k) - 1 + k + 1 = size (x / 2 ^ k) + k by omega, Nat.pow_add]
  exact (Nat.div_lt_iff_lt_mul (Nat.two_pow_pos k)).1 h2
theorem shr16 (x : Nat) : shiftI .shr .u64 x 16 = some (.int .u64 (x / 65536 : Nat)) := shr_word (x := x) (s := 16) (by omega)
theorem shr8 (x : Nat) : shiftI .shr .u64 x 8 = some (.int .u64 (x / 256 : Nat)) := shr_word (x := x) (s := 8) (by omega)
theorem shr32' (x : Nat) : shiftI .shr .u64 x 32 = some (.int .u64 (x / 4294967296 : Nat)) := shr_word (x := x) (s := 32) (by omega)
theorem wlit : IntKind.i64.wrap 8 = 8 ∧ IntKind.i64.wrap 16 = 16 ∧ IntKind.i64.wrap 24 = 24 ∧ IntKind.i64.wrap 32 = 32 ∧ IntKind.i64.wrap 40 = 40 ∧ IntKind.i64.wrap 48 = 48 ∧ IntKind.i64.wrap 56 = 56 := by decide
theorem len64_ok : FnOk Tryz.prog base 96 (pureS sLen64) := by
 refine pure_of_vc hmix Tab.none_ok globNone low96 fun args z hs hf => ?_
 unfold sLen64 at hs
 split at hs
 case h_2 => cases hs
 rename_i x
 split at hs
 case isFalse => cases hs
 rename_i hc
 cases hs
 obtain ⟨x, rfl⟩ := Int.eq_ofNat_of_zero_le hc.1
 simp only [Int.toNat_natCast] at hc ⊢
 obtain ⟨-, hx⟩ := hc
 rw [B_lit] at hx
 refine ⟨by simp [lf96], ?_⟩
 by_cases h0 : 4294967296 ≤ x
 ·obtain ⟨y0, hy0⟩ : ∃ y, y = x / 4294967296 := ⟨_, rfl⟩
  have e0 := shr32' x
  rw [← hy0] at e0
  have i0 : (4294967296 : Int) ≤ x := by omega
  have z0 : size x = size y0 + 32 := by rw [hy0]; exact size_shr (k := 32) h0
  by_cases h1 : 65536 ≤ y0
  ·obtain ⟨y1, hy1⟩ : ∃ y, y = y0 / 65536 := ⟨_, rfl⟩
   have e1 := shr16 y0
   rw [← hy1] at e1
   have i1 : (65536 : Int) ≤ y0 := by omega
   have z1 : size y0 = size y1 + 16 := by rw [hy1]; exact size_shr (k := 16) h1
   by_cases h2 : 256 ≤ y1
   ·obtain ⟨y2, hy2⟩ : ∃ y, y = y1 / 256 := ⟨_, rfl⟩
    have e2 := shr8 y1
    rw [← hy2] at e2
    have i2 : (256 : Int) ≤ y1 := by omega
    have z2 : size y1 = size y2 + 8 := by rw [hy2]; exact size_shr (k := 8) h2
    obtain ⟨b, hb, hbs⟩ := tab8_at (y := y2) (by omega)
    have hsz := size8 (y := y2) (by omega)
    have hu8 : IntKind.u8.wrap (y2 : Int) = y2 := IntWalk.u8_in _ (by omega)
    have hi8 : IntKind.i64.wrap (b.toNat : Int) = (b.toNat : Int) := IntWalk.i64_in _ (by omega)
    have hsum : IntKind.i64.wrap ((56 : Int) + b.toNat) = (size x : Int) := by rw [IntWalk.i64_in _ (by omega)]; omega
    simp [lf96, e0, i0, e1, i1, e2, i2, hsum, hu8, hb, hi8, wlit]
   ·have i2 : ¬ (256 : Int) ≤ y1 := by omega
    obtain ⟨b, hb, hbs⟩ := tab8_at (y := y1) (by omega)
    have hsz := size8 (y := y1) (by omega)
    have hu8 : IntKind.u8.wrap (y1 : Int) = y1 := IntWalk.u8_in _ (by omega)
    have hi8 : IntKind.i64.wrap (b.toNat : Int) = (b.toNat : Int) := IntWalk.i64_in _ (by omega)
    have hsum : IntKind.i64.wrap ((48 : Int) + b.toNat) = (size x : Int) := by rw [IntWalk.i64_in _ (by omega)]; omega
    simp [lf96, e0, i0, e1, i1, i2, hsum, hu8, hb, hi8, wlit]
  ·have i1 : ¬ (65536 : Int) ≤ y0 := by omega
   by_cases h2 : 256 ≤ y0
   ·obtain ⟨y2, hy2⟩ : ∃ y, y = y0 / 256 := ⟨_, rfl⟩
    have e2 := shr8 y0
    rw [← hy2] at e2
    have i2 : (256 : Int) ≤ y0 := by omega
    have z2 : size y0 = size y2 + 8 := by rw [hy2]; exact size_shr (k := 8) h2
    obtain ⟨b, hb, hbs⟩ := tab8_at (y := y2) (by omega)
    have hsz := size8 (y := y2) (by omega)
    have hu8 : IntKind.u8.wrap (y2 : Int) = y2 := IntWalk.u8_in _ (by omega)
    have hi8 : IntKind.i64.wrap (b.toNat : Int) = (b.toNat : Int) := IntWalk.i64_in _ (by omega)
    have hsum : IntKind.i64.wrap ((40 : Int) + b.toNat) = (size x : Int) := by rw [IntWalk.i64_in _ (by omega)]; omega
    simp [lf96, e0, i0, i1, e2, i2, hsum, hu8, hb, hi8, wlit]
   ·have i2 : ¬ (256 : Int) ≤ y0 := by omega
    obtain ⟨b, hb, hbs⟩ := tab8_at (y := y0) (by omega)
    have hsz := size8 (y := y0) (by omega)
    have hu8 : IntKind.u8.wrap (y0 : Int) = y0 := IntWalk.u8_in _ (by omega)
    have hi8 : IntKind.i64.wrap (b.toNat : Int) = (b.toNat : Int) := IntWalk.i64_in _ (by omega)
    have hsum : IntKind.i64.wrap ((32 : Int) + b.toNat) = (size x : Int) := by rw [IntWalk.i64_in _ (by omega)]; omega
    simp [lf96, e0, i0, i1, i2, hsum, hu8, hb, hi8, wlit]
 ·have i0 : ¬ (4294967296 : Int) ≤ x := by omega
  by_cases h1 : 65536 ≤ x
  ·obtain ⟨y1, hy1⟩ : ∃ y, y = x / 65536 := ⟨_, rfl⟩
   have e1 := shr16 x
   rw [← hy1] at e1
   have i1 : (65536 : Int) ≤ x := by omega
   have z1 : size x = size y1 + 16 := by rw [hy1]; exact size_shr (k := 16) h1
   by_cases h2 : 256 ≤ y1
   ·obtain ⟨y2, hy2⟩ : ∃ y, y = y1 / 256 := ⟨_, rfl⟩
    have e2 := shr8 y1
    rw [← hy2] at e2
    have i2 : (256 : Int) ≤ y1 := by omega
    have z2 : size y1 = size y2 + 8 := by rw [hy2]; exact size_shr (k := 8) h2
    obtain ⟨b, hb, hbs⟩ := tab8_at (y := y2) (by omega)
    have hsz := size8 (y := y2) (by omega)
    have hu8 : IntKind.u8.wrap (y2 : Int) = y2 := IntWalk.u8_in _ (by omega)
    have hi8 : IntKind.i64.wrap (b.toNat : Int) = (b.toNat : Int) := IntWalk.i64_in _ (by omega)
    have hsum : IntKind.i64.wrap ((24 : Int) + b.toNat) = (size x : Int) := by rw [IntWalk.i64_in _ (by omega)]; omega
    simp [lf96, i0, e1, i1, e2, i2, hsum, hu8, hb, hi8, wlit]
   ·have i2 : ¬ (256 : Int) ≤ y1 := by omega
    obtain ⟨b, hb, hbs⟩ := tab8_at (y := y1) (by omega)
    have hsz := size8 (y := y1) (by omega)
    have hu8 : IntKind.u8.wrap (y1 : Int) = y1 := IntWalk.u8_in _ (by omega)
    have hi8 : IntKind.i64.wrap (b.toNat : Int) = (b.toNat : Int) := IntWalk.i64_in _ (by omega)
    have hsum : IntKind.i64.wrap ((16 : Int) + b.toNat) = (size x : Int) := by rw [IntWalk.i64_in _ (by omega)]; omega
    simp [lf96, i0, e1, i1, i2, hsum, hu8, hb, hi8, wlit]
  ·have i1 : ¬ (65536 : Int) ≤ x := by omega
   by_cases h2 : 256 ≤ x
   ·obtain ⟨y2, hy2⟩ : ∃ y, y = x / 256 := ⟨_, rfl⟩
    have e2 := shr8 x
    rw [← hy2] at e2
    have i2 : (256 : Int) ≤ x := by omega
    have z2 : size x = size y2 + 8 := by rw [hy2]; exact size_shr (k := 8) h2
    obtain ⟨b, hb, hbs⟩ := tab8_at (y := y2) (by omega)
    have hsz := size8 (y := y2) (by omega)
    have hu8 : IntKind.u8.wrap (y2 : Int) = y2 := IntWalk.u8_in _ (by omega)
    have hi8 : IntKind.i64.wrap (b.toNat : Int) = (b.toNat : Int) := IntWalk.i64_in _ (by omega)
    have hsum : IntKind.i64.wrap ((8 : Int) + b.toNat) = (size x : Int) := by rw [IntWalk.i64_in _ (by omega)]; omega
    simp [lf96, i0, i1, e2, i2, hsum, hu8, hb, hi8, wlit]
   ·have i2 : ¬ (256 : Int) ≤ x := by omega
    obtain ⟨b, hb, hbs⟩ := tab8_at (y := x) (by omega)
    have hsz := size8 (y := x) (by omega)
    have hu8 : IntKind.u8.wrap (x : Int) = x := IntWalk.u8_in _ (by omega)
    have hi8 : IntKind.i64.wrap (b.toNat : Int) = (b.toNat : Int) := IntWalk.i64_in _ (by omega)
    have hi9 := hi8
    rw [hbs] at hi9
    simp [lf96, i0, i1, i2, hbs, hu8, hb, hi9]
def sLead : List PVal → Option PVal
 | [.int .u64 x] => if 0 ≤ x ∧ x.toNat < B then some (.int .i64 ((64 - size x.toNat : Nat) : Int)) else none
 | _ => none
theorem sLead_nat {x : Nat} (hx : x < B) : sLead [.int .u64 x] = some (.int .i64 ((64 - size x : Nat) : Int)) := by
 show (if (0 : Int) ≤ x ∧ (x : Int).toNat < B then _ else none) = _
 rw [if_pos ⟨by omega, by simpa using hx⟩]
 simp
theorem size64 {x : Nat} (hx : x < B) : size x ≤ 64 := size_le_iff.2 (by rw [pow64]; exact hx)
def Tlen : Tab := Tab.none.with 96 (pureS sLen64)
theorem Tlen_ok : TabOk Tryz.prog base Tlen := Tab.with_ok Tab.none_ok len64_ok
theorem Tlen_mu (f : FuncId) (a : List AVal) (H : Heap) : Tlen.mu f a H = none := (rfl)
theorem Tlen_len : Tlen.fn 96 = pureS sLen64 := (rfl)
theorem lead_ok : FnOk Tryz.prog base 80 (pureS sLead) := by
 refine pure_of_vc hmix Tlen_ok globNone low80 fun args z hs hf => ?_
 unfold sLead at hs
 split at hs
 case h_2 => cases hs
 rename_i x
 split at hs
 case isFalse => cases hs
 rename_i hc
 cases hs
 obtain ⟨x, rfl⟩ := Int.eq_ofNat_of_zero_le hc.1
 simp only [Int.toNat_natCast] at hc ⊢
 obtain ⟨-, hx⟩ := hc
 refine ⟨by simp [lf80], ?_⟩
 have h1 := sLen64_nat hx
 have h2 := size64 hx
 have h3 : IntKind.i64.wrap (64 - (size x : Int)) = ((64 - size x : Nat) : Int) := by rw [IntWalk.i64_in _ (by omega)]; omega
 simp [lf80, h1, h3, Tlen_mu, Tlen_len]
end Go.Proofs.YtcbagnlidecmkaaGreatDoor.Nn

/-
 math/bits: Div64.
-/
namespace Go.Proofs.YtcbagnlidecmkaaGreatDoor.Nn
open Go Go.Abs Go.Limbs
variable {base : Prot}
set_option maxRecDepth 20000
attribute [local irreducible] vc
attribute [local simp] pureS touchV freezeL fuel shiftV u64 au
theorem half_prod {q y : Nat} (hq : q < 4294967296) (hy : y < 4294967296) : q * y < B := by
 have h := Lib.half_mul_le (a := q) (b := y) (by omega) (by omega)
 generalize q * y = p at *
 rw [B_lit]
 omega
theorem digit_split (q a b rh : Nat) : q * (a * 4294967296 + b) = q * a * 4294967296 + q * b ∧ (q * a + rh) * 4294967296 = q * a * 4294967296 + rh * 4294967296 := by
 constructor
 ·rw [Nat.mul_add q, Nat.mul_assoc]
 ·exact Nat.add_mul _ _ _
theorem digit_over {q a b rh d un Q : Nat} (hT : un = q * a + rh) (hQ : Q = (un * 4294967296 + d) / (a * 4294967296 + b)) (hy : 0 < a * 4294967296 + b) (h : rh * 4294967296 + d < q * b) : Q < q := by
 subst hQ hT
 obtain ⟨e1, e2⟩ := digit_split q a b rh
 refine (Nat.div_lt_iff_lt_mul hy).2 ?_
 rw [e1, e2, Nat.add_assoc]
 exact Nat.add_lt_add_left h _
theorem digit_done {q a b rh d un Q : Nat} (hT : un = q * a + rh) (hQ : Q = (un * 4294967296 + d) / (a * 4294967296 + b)) (hy : 0 < a * 4294967296 + b) (h : q * b ≤ rh * 4294967296 + d) : q ≤ Q := by
 subst hQ hT
 obtain ⟨e1, e2⟩ := digit_split q a b rh
 refine (Nat.le_div_iff_mul_le hy).2 ?_
 rw [e1, e2]
 omega
theorem digit_small {a b d un Q : Nat} (hQ : Q = (un * 4294967296 + d) / (a * 4294967296 + b)) (hu : un < a * 4294967296 + b) (hd : d < 4294967296) : Q < 4294967296 := by
 rw [hQ, Nat.div_lt_iff_lt_mul (by omega)]
 omega
theorem digit_first {a b d un Q : Nat} (hQ : Q = (un * 4294967296 + d) / (a * 4294967296 + b)) (ha : 0 < a) (hd : d < 4294967296) : Q ≤ un / a := by
 rw [hQ, Nat.le_div_iff_mul_le ha]
 have h1 := Nat.div_mul_le_self (un * 4294967296 + d) (a * 4294967296 + b)
 generalize (un * 4294967296 + d) / (a * 4294967296 + b) = m at *
 rw [Nat.mul_add, ← Nat.mul_assoc] at h1
 omega
theorem first_le {a b un : Nat} (hu : un < a * 4294967296 + b) (ha : 2147483648 ≤ a) (hb : b < 4294967296) : un / a ≤ 4294967297 := by
 have : un / a < 4294967298 := by rw [Nat.div_lt_iff_lt_mul (by omega)]; omega
 omega
theorem wrap_rest {a d q y r : Nat} (h : a * 4294967296 + d = q * y + r) (hr : r < B) (hd : d < B) :
  IntKind.u64.wrap (IntKind.u64.wrap (IntKind.u64.wrap ((a : Int) * 4294967296) + d) - IntKind.u64.wrap ((q : Int) * y)) = (r : Int) := by
 rw [B_lit] at hr hd
 have e : (q : Int) * y = ((q * y : Nat) : Int) := by simp
 rw [e]
 generalize q * y = p at *
 rw [IntKind.wrap_u64, IntKind.wrap_u64, IntKind.wrap_u64, IntKind.wrap_u64]
 omega
theorem wrap_rest0 {a q y r : Nat} (h : a = q * y + r) (hr : r < B) : IntKind.u64.wrap ((a : Int) - IntKind.u64.wrap ((q : Int) * y)) = (r : Int) := by
 rw [B_lit] at hr
 have e : (q : Int) * y = ((q * y : Nat) : Int) := by simp
 rw [e]
 generalize q * y = p at *
 rw [IntKind.wrap_u64, IntKind.wrap_u64]
 omega
def divQ (h l y : Nat) : Nat := (h * B + l) / y
def divR (h l y : Nat) : Nat := (h * B + l) % y
def sDiv64 : List PVal → Option PVal
 | [.int .u64 h, .int .u64 l, .int .u64 y] => if 0 ≤ h ∧ h < y ∧ 0 ≤ l ∧ l.toNat < B ∧ y.toNat < B then some (.tup [.int .u64 (divQ h.toNat l.toNat y.toNat), .int .u64 (divR h.toNat l.toNat y.toNat)]) else none
 | _ => none
theorem sDiv64_nat {h l y : Nat} (hh : h < y) (hl : l < B) (hy : y < B) : sDiv64 [.int .u64 h, .int .u64 l, .int .u64 y] = some (.tup [.int .u64 (divQ h l y), .int .u64 (divR h l y)]) := by
 show (if (0 : Int) ≤ h ∧ (h : Int) < y ∧ (0 : Int) ≤ l ∧ (l : Int).toNat < B ∧ (y : Int).toNat < B then _ else none) = _
 rw [if_pos ⟨by omega, by omega, by omega, by simpa using hl, by simpa using hy⟩]
 simp
def Tdiv : Tab := Tab.none.with 80 (pureS sLead)
theorem Tdiv_ok : TabOk Tryz.prog base Tdiv := Tab.with_ok Tab.none_ok lead_ok
theorem Tdiv_mu (f : FuncId) (a : List AVal) (H : Heap) : Tdiv.mu f a H = none := (rfl)
theorem Tdiv_lead : Tdiv.fn 80 = pureS sLead := (rfl)
theorem div_loop0 {a b d un q0 r0 Q : Nat} {g2 g8 g11 g14 : AVal} {R : LExit → AFr → Heap → Prop} {fr : AFr} (hT : un = q0 * a + r0) (hQ : Q = (un * 4294967296 + d) / (a * 4294967296 + b)) (hu : un < a * 4294967296 + b) (ha : 2147483648 ≤ a) (ha2 : a < 4294967296) (hb : b < 4294967296) (hd : d < 4294967296)
  (hq0 : Q ≤ q0) (hq1 : q0 ≤ 4294967297) (hr0 : r0 < 4294967296) (h9 : fr 9 = .p (.int .u64 a)) (h10 : fr 10 = .p (.int .u64 b)) (hD : fr 13 = .p (.int .u64 d)) (hq : fr 15 = .p (.int .u64 q0)) (h16 : fr 16 = .p (.int .u64 r0)) (k2 : fr 2 = g2) (k8 : fr 8 = g8) (k11 : fr 11 = g11) (k14 : fr 14 = g14)
  (hR : ∀ fr' : AFr, fr' 9 = .p (.int .u64 a) → fr' 10 = .p (.int .u64 b) → fr' 13 = .p (.int .u64 d) → fr' 15 = .p (.int .u64 Q) → fr' 2 = g2 → fr' 8 = g8 → fr' 11 = g11 → fr' 14 = g14 → R .normal fr' []) : vc Tdiv lf63_B0 R fr [] := by
 simp only [lf63_B0, vc_block]
 have hy : 0 < a * 4294967296 + b := by omega
 have hQs := digit_small hQ hu hd
 refine loop_ind (fun fr H => ∃ q r : Nat, un = q * a + r ∧ Q ≤ q ∧ q ≤ 4294967297 ∧ r < 4294967296 ∧ H = [] ∧ fr 9 = .p (.int .u64 a) ∧ fr 10 = .p (.int .u64 b) ∧ fr 13 = .p (.int .u64 d) ∧ fr 15 = .p (.int .u64 q) ∧ fr 16 = .p (.int .u64 r) ∧ fr 2 = g2 ∧ fr 8 = g8 ∧ fr 11 = g11 ∧ fr 14 = g14)
  (fun fr _ => ivar (fr 15)) ⟨q0, r0, hT, hq0, hq1, hr0, rfl, h9, h10, hD, hq, h16, k2, k8, k11, k14⟩ ?_
 rintro fr H ⟨q, r, hT, hq0, hq1, hr0, rfl, h9, h10, hD, hq, h16, k2, k8, k11, k14⟩
 obtain ⟨r', hr'⟩ : ∃ x, x = r + a := ⟨_, rfl⟩
 have hw2 : IntKind.u64.wrap ((r : Int) + a) = (r' : Int) := by rw [wrap_u_add (by rw [B_lit]; omega), hr']
 have hTs : ∀ q', q = q' + 1 → un = q' * a + r' := fun q' e => by rw [hT, e, Nat.add_mul, hr']; omega
 have brk : ∀ q', q = q' + 1 → 4294967296 ≤ r' → q' = Q → True := fun _ _ _ _ => trivial
 by_cases hbig : 4294967296 ≤ q
 ·obtain ⟨q', hq'⟩ : ∃ x, q = x + 1 := ⟨q - 1, by omega⟩
  have hw1 : IntKind.u64.wrap ((q : Int) - 1) = (q' : Int) := by rw [IntWalk.u64_in _ (by omega)]; omega
  have hbI : (4294967296 : Int) ≤ q := by omega
  have hT' := hTs q' hq'
  by_cases hrb : 4294967296 ≤ r'
  ·have hrI : (4294967296 : Int) ≤ r' := by omega
   have hle : q' ≤ Q := digit_done hT' hQ hy (by
    have h1 : q' * b ≤ 4294967296 * b := Nat.mul_le_mul_right _ (by omega)
    omega)
   have hqQ : q' = Q := by omega
   subst hqQ
   simp [h9, h10, hD, hq, h16, k2, k8, k11, k14, hbI, hw1, hw2, hrI]
   exact hR _ (by simp [h9]) (by simp [h10]) (by simp [hD]) (by simp) (by simp [k2]) (by simp [k8]) (by simp [k11]) (by simp [k14])
  ·have hrI : ¬ (4294967296 : Int) ≤ r' := by omega
   simp [h9, h10, hD, hq, h16, k2, k8, k11, k14, hbI, hw1, hw2, hrI, ivar]
   exact ⟨⟨q', r', hT', by omega, by omega, by omega, rfl, rfl⟩, by omega⟩
 ·have hbI : ¬ (4294967296 : Int) ≤ q := by omega
  obtain ⟨p, hp⟩ : ∃ x, x = q * b := ⟨_, rfl⟩
  have hpB : p < B := by rw [hp]; exact half_prod (by omega) hb
  have hw3 : IntKind.u64.wrap ((q : Int) * b) = (p : Int) := by rw [wrap_u_mul, ← hp, Nat.mod_eq_of_lt hpB]
  obtain ⟨t, ht⟩ : ∃ x, x = 4294967296 * r := ⟨_, rfl⟩
  have hw4 : IntKind.u64.wrap (4294967296 * (r : Int)) = (t : Int) := by rw [IntWalk.u64_in _ (by omega)]; omega
  obtain ⟨t2, ht2⟩ : ∃ x, x = t + d := ⟨_, rfl⟩
  have hw5 : IntKind.u64.wrap ((t : Int) + d) = (t2 : Int) := by rw [IntWalk.u64_in _ (by omega)]; omega
  by_cases hc : t2 < p
  ·have hQq : Q < q := digit_over hT hQ hy (by omega)
   obtain ⟨q', hq'⟩ : ∃ x, q = x + 1 := ⟨q - 1, by omega⟩
   have hw1 : IntKind.u64.wrap ((q : Int) - 1) = (q' : Int) := by rw [IntWalk.u64_in _ (by omega)]; omega
   have hT' := hTs q' hq'
   by_cases hrb : 4294967296 ≤ r'
   ·have hrI : (4294967296 : Int) ≤ r' := by omega
    have hle : q' ≤ Q := digit_done hT' hQ hy (by
     have h1 : q' * b ≤ 4294967296 * b := Nat.mul_le_mul_right _ (by omega)
     omega)
    have hqQ : q' = Q := by omega
    subst hqQ
    simp [h9, h10, hD, hq, h16, k2, k8, k11, k14, hbI, hw1, hw2, hw3, hw4, hw5, hc, hrI]
    exact hR _ (by simp [h9]) (by simp [h10]) (by simp [hD]) (by simp) (by simp [k2]) (by simp [k8]) (by simp [k11]) (by simp [k14])
   ·have hrI : ¬ (4294967296 : Int) ≤ r' := by omega
    simp [h9, h10, hD, hq, h16, k2, k8, k11, k14, hbI, hw1, hw2, hw3, hw4, hw5, hc, hrI, ivar]
    exact ⟨⟨q', r', hT', by omega, by omega, by omega, rfl, rfl⟩, by omega⟩
  ·have hle : q ≤ Q := digit_done hT hQ hy (by omega)
   have hqQ : q = Q := by omega
   subst hqQ
   simp [h9, h10, hD, hq, h16, k2, k8, k11, k14, hbI, hw3, hw4, hw5, hc]
   exact hR _ (by simp [h9]) (by simp [h10]) (by simp [hD]) (by simp [hq]) (by simp [k2]) (by simp [k8]) (by simp [k11]) (by simp [k14])
theorem div_loop1 {a b d un q0 r0 Q : Nat} {g2 g8 g15 g17 : AVal} {R : LExit → AFr → Heap → Prop} {fr : AFr} (hT : un = q0 * a + r0) (hQ : Q = (un * 4294967296 + d) / (a * 4294967296 + b)) (hu : un < a * 4294967296 + b) (ha : 2147483648 ≤ a) (ha2 : a < 4294967296) (hb : b < 4294967296) (hd : d < 4294967296)
  (hq0 : Q ≤ q0) (hq1 : q0 ≤ 4294967297) (hr0 : r0 < 4294967296) (h9 : fr 9 = .p (.int .u64 a)) (h10 : fr 10 = .p (.int .u64 b)) (hD : fr 14 = .p (.int .u64 d)) (hq : fr 18 = .p (.int .u64 q0)) (h16 : fr 16 = .p (.int .u64 r0)) (k2 : fr 2 = g2) (k8 : fr 8 = g8) (k15 : fr 15 = g15) (k17 : fr 17 = g17)
  (hR : ∀ fr' : AFr, fr' 9 = .p (.int .u64 a) → fr' 10 = .p (.int .u64 b) → fr' 14 = .p (.int .u64 d) → fr' 18 = .p (.int .u64 Q) → fr' 2 = g2 → fr' 8 = g8 → fr' 15 = g15 → fr' 17 = g17 → R .normal fr' []) : vc Tdiv lf63_B1 R fr [] := by
 simp only [lf63_B1, vc_block]
 have hy : 0 < a * 4294967296 + b := by omega
 have hQs := digit_small hQ hu hd
 refine loop_ind (fun fr H => ∃ q r : Nat, un = q * a + r ∧ Q ≤ q ∧ q ≤ 4294967297 ∧ r < 4294967296 ∧ H = [] ∧ fr 9 = .p (.int .u64 a) ∧ fr 10 = .p (.int .u64 b) ∧ fr 14 = .p (.int .u64 d) ∧ fr 18 = .p (.int .u64 q) ∧ fr 16 = .p (.int .u64 r) ∧ fr 2 = g2 ∧ fr 8 = g8 ∧ fr 15 = g15 ∧ fr 17 = g17)
  (fun fr _ => ivar (fr 18)) ⟨q0, r0, hT, hq0, hq1, hr0, rfl, h9, h10, hD, hq, h16, k2, k8, k15, k17⟩ ?_
 rintro fr H ⟨q, r, hT, hq0, hq1, hr0, rfl, h9, h10, hD, hq, h16, k2, k8, k15, k17⟩
 obtain ⟨r', hr'⟩ : ∃ x, x = r + a := ⟨_, rfl⟩
 have hw2 : IntKind.u64.wrap ((r : Int) + a) = (r' : Int) := by rw [wrap_u_add (by rw [B_lit]; omega), hr']
 have hTs : ∀ q', q = q' + 1 → un = q' * a + r' := fun q' e => by rw [hT, e, Nat.add_mul, hr']; omega
 have brk : ∀ q', q = q' + 1 → 4294967296 ≤ r' → q' = Q → True := fun _ _ _ _ => trivial
 by_cases hbig : 4294967296 ≤ q
 ·obtain ⟨q', hq'⟩ : ∃ x, q = x + 1 := ⟨q - 1, by omega⟩
  have hw1 : IntKind.u64.wrap ((q : Int) - 1) = (q' : Int) := by rw [IntWalk.u64_in _ (by omega)]; omega
  have hbI : (4294967296 : Int) ≤ q := by omega
  have hT' := hTs q' hq'
  by_cases hrb : 4294967296 ≤ r'
  ·have hrI : (4294967296 : Int) ≤ r' := by omega
   have hle : q' ≤ Q := digit_done hT' hQ hy (by
    have h1 : q' * b ≤ 4294967296 * b := Nat.mul_le_mul_right _ (by omega)
    omega)
   have hqQ : q' = Q := by omega
   subst hqQ
   simp [h9, h10, hD, hq, h16, k2, k8, k15, k17, hbI, hw1, hw2, hrI]
   exact hR _ (by simp [h9]) (by simp [h10]) (by simp [hD]) (by simp) (by simp [k2]) (by simp [k8]) (by simp [k15]) (by simp [k17])
  ·have hrI : ¬ (4294967296 : Int) ≤ r' := by omega
   simp [h9, h10, hD, hq, h16, k2, k8, k15, k17, hbI, hw1, hw2, hrI, ivar]
   exact ⟨⟨q', r', hT', by omega, by omega, by omega, rfl, rfl⟩, by omega⟩
 ·have hbI : ¬ (4294967296 : Int) ≤ q := by omega
  obtain ⟨p, hp⟩ : ∃ x, x = q * b := ⟨_, rfl⟩
  have hpB : p < B := by rw [hp]; exact half_prod (by omega) hb
  have hw3 : IntKind.u64.wrap ((q : Int) * b) = (p : Int) := by rw [wrap_u_mul, ← hp, Nat.mod_eq_of_lt hpB]
  obtain ⟨t, ht⟩ : ∃ x, x = 4294967296 * r := ⟨_, rfl⟩
  have hw4 : IntKind.u64.wrap (4294967296 * (r : Int)) = (t : Int) := by rw [IntWalk.u64_in _ (by omega)]; omega
  obtain ⟨t2, ht2⟩ : ∃ x, x = t + d := ⟨_, rfl⟩
  have hw5 : IntKind.u64.wrap ((t : Int) + d) = (t2 : Int) := by rw [IntWalk.u64_in _ (by omega)]; omega
  by_cases hc : t2 < p
  ·have hQq : Q < q := digit_over hT hQ hy (by omega)
   obtain ⟨q', hq'⟩ : ∃ x, q = x + 1 := ⟨q - 1, by omega⟩
   have hw1 : IntKind.u64.wrap ((q : Int) - 1) = (q' : Int) := by rw [IntWalk.u64_in _ (by omega)]; omega
   have hT' := hTs q' hq'
   by_cases hrb : 4294967296 ≤ r'
   ·have hrI : (4294967296 : Int) ≤ r' := by omega
    have hle : q' ≤ Q := digit_done hT' hQ hy (by
     have h1 : q' * b ≤ 4294967296 * b := Nat.mul_le_mul_right _ (by omega)
     omega)
    have hqQ : q' = Q := by omega
    subst hqQ
    simp [h9, h10, hD, hq, h16, k2, k8, k15, k17, hbI, hw1, hw2, hw3, hw4, hw5, hc, hrI]
    exact hR _ (by simp [h9]) (by simp [h10]) (by simp [hD]) (by simp) (by simp [k2]) (by simp [k8]) (by simp [k15]) (by simp [k17])
   ·have hrI : ¬ (4294967296 : Int) ≤ r' := by omega
    simp [h9, h10, hD, hq, h16, k2, k8, k15, k17, hbI, hw1, hw2, hw3, hw4, hw5, hc, hrI, ivar]
    exact ⟨⟨q', r', hT', by omega, by omega, by omega, rfl, rfl⟩, by omega⟩
  ·have hle : q ≤ Q := digit_done hT hQ hy (by omega)
   have hqQ : q = Q := by omega
   subst hqQ
   simp [h9, h10, hD, hq, h16, k2, k8, k15, k17, hbI, hw3, hw4, hw5, hc]
   exact hR _ (by simp [h9]) (by simp [h10]) (by simp [hD]) (by simp [hq]) (by simp [k2]) (by simp [k8]) (by simp [k15]) (by simp [k17])
theorem div64_ok : FnOk Tryz.prog base 63 (pureS sDiv64) := by
 refine pure_of_vc hmix Tdiv_ok globNone low63 fun args z hs hf => ?_
 unfold sDiv64 at hs
 split at hs
 case h_2 => cases hs
 rename_i h l y
 split at hs
 case isFalse => cases hs
 rename_i hc
 cases hs
 obtain ⟨h, rfl⟩ := Int.eq_ofNat_of_zero_le hc.1
 obtain ⟨l, rfl⟩ := Int.eq_ofNat_of_zero_le hc.2.2.1
 obtain ⟨y, rfl⟩ := Int.eq_ofNat_of_zero_le (a := y) (by omega)
 simp only [Int.toNat_natCast] at hc ⊢
 obtain ⟨-, hhy, -, hl, hy⟩ := hc
 have hhy : h < y := by omega
 refine ⟨by simp [lf63], ?_⟩
 have hy0 : ((y : Int) == 0) = false := beq_false_of_ne (by omega)
 have hyh : ¬ y ≤ h := by omega
 by_cases hh : h = 0
 ·subst hh
  have hq : IntKind.u64.wrap ((l : Int) / y) = (divQ 0 l y : Int) := by
   have : (l : Int) / y = ((l / y : Nat) : Int) := by simp
   rw [this, wrap_u (Nat.lt_of_le_of_lt (Nat.div_le_self _ _) hl)]
   simp [divQ]
  have hr : (l : Int).tmod y = (divR 0 l y : Int) := by rw [Int.tmod_eq_emod_of_nonneg (by omega)]; simp [divR]
  have hyn : ¬ (y : Int) = 0 := by omega
  have hyn' : ¬ y = 0 := by omega
  have hyI : ¬ (y : Int) ≤ 0 := by omega
  simp [lf63, hy0, hyh, hyI, hyn, hyn', hq, hr]
 ·have hh0 : ((h : Int) == 0) = false := beq_false_of_ne (by omega)
  have hyne : y ≠ 0 := by omega
  obtain ⟨s, hs⟩ : ∃ s, s = 64 - size y := ⟨_, rfl⟩
  have hsz := size64 hy
  have hsp := size_pos hyne
  have hs63 : s ≤ 63 := by omega
  have hlead := sLead_nat hy
  rw [← hs] at hlead
  have hws : IntKind.u64.wrap (s : Int) = s := wrap_u (by rw [B_lit]; omega)
  -- the divisor
  obtain ⟨y', hy'⟩ : ∃ w, w = y * 2 ^ s := ⟨_, rfl⟩
  have hy'B : y' < B := by
   rw [hy', ← pow64, show 64 = size y + s by omega, Nat.pow_add]
   exact Nat.mul_lt_mul_of_pos_right (lt_size y) (Nat.two_pow_pos s)
  have hy'H : B / 2 ≤ y' := by
   have h1 := Nat.mul_le_mul_right (2 ^ s) (size_le hyne)
   rw [← Nat.pow_add, show size y - 1 + s = 63 by omega, ← hy'] at h1
   rw [B_lit]
   omega
  have e1 : shiftI .shl .u64 y s = some (.int .u64 y') := by rw [shl_word (by omega), ← hy', Nat.mod_eq_of_lt hy'B]
  obtain ⟨a, ha⟩ : ∃ w, w = hi32 y' := ⟨_, rfl⟩
  obtain ⟨b, hb⟩ : ∃ w, w = lo32 y' := ⟨_, rfl⟩
  have e2 := shr32 y'
  have e3 := low_mask hy'B
  rw [← ha] at e2
  rw [← hb] at e3
  have hab : y' = a * 4294967296 + b := by rw [ha, hb]; unfold hi32 lo32; omega
  have hbG : b < 4294967296 := by rw [hb]; unfold lo32; omega
  have haG : a < 4294967296 := by rw [ha]; unfold hi32; rw [B_lit] at hy'B; omega
  have haH : 2147483648 ≤ a := by rw [B_lit] at hy'H; omega
  -- the dividend
  obtain ⟨u, hu⟩ : ∃ w, w = h * 2 ^ s + l / 2 ^ (64 - s) := ⟨_, rfl⟩
  have hlo : l / 2 ^ (64 - s) < 2 ^ s := by
   rw [Nat.div_lt_iff_lt_mul (Nat.two_pow_pos _), two_split (by omega)]; exact hl
  have huy : u < y' := by
   have : (h + 1) * 2 ^ s ≤ y * 2 ^ s := Nat.mul_le_mul_right _ hhy
   rw [Nat.add_mul, Nat.one_mul] at this
   omega
  have hhs : h * 2 ^ s < B := Nat.lt_of_le_of_lt (by rw [hu]; exact Nat.le_add_right _ _) (Nat.lt_trans huy hy'B)
  have e4 : shiftI .shl .u64 h s = some (.int .u64 (h * 2 ^ s : Nat)) := by rw [shl_word (by omega), Nat.mod_eq_of_lt hhs]
  have hws2 : IntKind.u64.wrap (64 - (s : Int)) = ((64 - s : Nat) : Int) := by rw [IntWalk.u64_in _ (by omega)]; omega
  have e5 : shiftI .shr .u64 l ((64 - s : Nat) : Int) = some (.int .u64 (l / 2 ^ (64 - s) : Nat)) := shr_word (by omega)
  have e6 := or_bits hhs (show l / 2 ^ (64 - s) < B from Nat.lt_of_le_of_lt (Nat.div_le_self _ _) hl)
  rw [Nat.or_comm, or_low hlo, Nat.add_comm, ← hu] at e6
  obtain ⟨hs1, hhs1⟩ : ∃ w, w = h * 2 ^ s := ⟨_, rfl⟩
  obtain ⟨ls1, hls1⟩ : ∃ w, w = l / 2 ^ (64 - s) := ⟨_, rfl⟩
  rw [← hhs1] at e4 e6
  rw [← hls1] at e5 e6
  obtain ⟨v, hv⟩ : ∃ w, w = l * 2 ^ s % B := ⟨_, rfl⟩
  have hvB : v < B := by rw [hv]; exact Nat.mod_lt _ B_pos
  have e7 : shiftI .shl .u64 l s = some (.int .u64 v) := by rw [shl_word (by omega), hv]
  obtain ⟨d1, hd1⟩ : ∃ w, w = hi32 v := ⟨_, rfl⟩
  obtain ⟨d0, hd0⟩ : ∃ w, w = lo32 v := ⟨_, rfl⟩
  have e8 := shr32 v
  have e9 := low_mask hvB
  rw [← hd1] at e8
  rw [← hd0] at e9
  have hvd : v = d1 * 4294967296 + d0 := by rw [hd1, hd0]; unfold hi32 lo32; omega
  have hd1G : d1 < 4294967296 := by rw [hd1]; unfold hi32; rw [B_lit] at hvB; omega
  have hd0G : d0 < 4294967296 := by rw [hd0]; unfold lo32; omega
  have hN : (h * B + l) * 2 ^ s = (u * 4294967296 + d1) * 4294967296 + d0 := by
   have h1 := Nat.mod_add_div (l * 2 ^ s) B
   rw [← hv, shl_high (by omega)] at h1
   have h2 : (h * B + l) * 2 ^ s = h * 2 ^ s * B + l * 2 ^ s := by rw [Nat.add_mul, Nat.mul_right_comm]
   rw [h2, hu, ← h1, hvd]
   generalize h * 2 ^ s = p at *
   generalize l / 2 ^ (64 - s) = q at *
   rw [B_lit]
   omega
  -- the digits
  obtain ⟨Q1, hQ1⟩ : ∃ w, w = (u * 4294967296 + d1) / (a * 4294967296 + b) := ⟨_, rfl⟩
  obtain ⟨R1, hR1⟩ : ∃ w, w = (u * 4294967296 + d1) % (a * 4294967296 + b) := ⟨_, rfl⟩
  have hdm1 := Nat.div_add_mod (u * 4294967296 + d1) (a * 4294967296 + b)
  rw [← hQ1, ← hR1, Nat.mul_comm _ Q1, ← hab] at hdm1
  have hR1y : R1 < y' := by rw [hR1, ← hab]; exact Nat.mod_lt _ (by omega)
  obtain ⟨Q0, hQ0⟩ : ∃ w, w = (R1 * 4294967296 + d0) / (a * 4294967296 + b) := ⟨_, rfl⟩
  obtain ⟨R0, hR0⟩ : ∃ w, w = (R1 * 4294967296 + d0) % (a * 4294967296 + b) := ⟨_, rfl⟩
  have hdm0 := Nat.div_add_mod (R1 * 4294967296 + d0) (a * 4294967296 + b)
  rw [← hQ0, ← hR0, Nat.mul_comm _ Q0, ← hab] at hdm0
  have hR0y : R0 < y' := by rw [hR0, ← hab]; exact Nat.mod_lt _ (by omega)
  have hQ1G := digit_small hQ1 (by omega) hd1G
  have hQ0G := digit_small hQ0 (by omega) hd0G
  have hdiv : h * B + l = (Q1 * 4294967296 + Q0) * y + R0 / 2 ^ s ∧ R0 / 2 ^ s < y := by
   have h1 : (h * B + l) * 2 ^ s = ((Q1 * 4294967296 + Q0) * y) * 2 ^ s + R0 := by
    rw [hN, ← hdm1, Nat.mul_assoc, ← hy', Nat.add_mul (Q1 * 4294967296), Nat.mul_right_comm Q1, Nat.add_mul]
    omega
   have h2 := congrArg (fun t => t / 2 ^ s) h1
   rw [Nat.mul_div_cancel _ (Nat.two_pow_pos s), Nat.add_comm _ R0, Nat.add_mul_div_right _ _ (Nat.two_pow_pos s)] at h2
   refine ⟨by omega, ?_⟩
   rw [Nat.div_lt_iff_lt_mul (Nat.two_pow_pos s), ← hy']
   exact hR0y
  obtain ⟨hq, hr⟩ := div_done (a := h * B + l) (q := Q1 * 4294967296 + Q0) (k := y) (by rw [Nat.mul_comm y]; exact hdiv.1) hdiv.2
  have hqd : divQ h l y = Q1 * 4294967296 + Q0 := hq.symm
  have hrd : divR h l y = R0 / 2 ^ s := hr.symm
  -- the walk
  have ha0 : ¬ (a : Int) = 0 := by omega
  have ha0' : ¬ a = 0 := by omega
  obtain ⟨q0, hq0⟩ : ∃ w, w = u / a := ⟨_, rfl⟩
  obtain ⟨r0, hr0⟩ : ∃ w, w = u % a := ⟨_, rfl⟩
  have hua := Nat.div_add_mod u a
  rw [← hq0, ← hr0, Nat.mul_comm] at hua
  have hr0a : r0 < a := by rw [hr0]; exact Nat.mod_lt _ (by omega)
  have w1 : IntKind.u64.wrap ((u : Int) / a) = (q0 : Int) := by
   have : (u : Int) / a = ((u / a : Nat) : Int) := by simp
   rw [this, ← hq0, wrap_u (Nat.lt_of_le_of_lt (by rw [hq0]; exact Nat.div_le_self _ _) (by omega : u < B))]
  have w2 : IntKind.u64.wrap ((u : Int) - IntKind.u64.wrap ((q0 : Int) * a)) = (r0 : Int) := wrap_rest0 hua.symm (by rw [B_lit]; omega)
  obtain ⟨q2, hq2⟩ : ∃ w, w = R1 / a := ⟨_, rfl⟩
  obtain ⟨r2, hr2⟩ : ∃ w, w = R1 % a := ⟨_, rfl⟩
  have hua2 := Nat.div_add_mod R1 a
  rw [← hq2, ← hr2, Nat.mul_comm] at hua2
  have hr2a : r2 < a := by rw [hr2]; exact Nat.mod_lt _ (by omega)
  have w3 : IntKind.u64.wrap ((R1 : Int) / a) = (q2 : Int) := by
   have : (R1 : Int) / a = ((R1 / a : Nat) : Int) := by simp
   rw [this, ← hq2, wrap_u (Nat.lt_of_le_of_lt (by rw [hq2]; exact Nat.div_le_self _ _) (by omega : R1 < B))]
  have w4 : IntKind.u64.wrap ((R1 : Int) - IntKind.u64.wrap ((q2 : Int) * a)) = (r2 : Int) := wrap_rest0 hua2.symm (by rw [B_lit]; omega)
  have w5 := wrap_rest (a := u) (d := d1) (q := Q1) (y := y') (r := R1) hdm1.symm (by omega) (by rw [B_lit]; omega)
  have w6 := wrap_rest (a := R1) (d := d0) (q := Q0) (y := y') (r := R0) hdm0.symm (by omega) (by rw [B_lit]; omega)
  obtain ⟨q3, hq3⟩ : ∃ w, w = Q1 * 4294967296 := ⟨_, rfl⟩
  have w7 : IntKind.u64.wrap ((Q1 : Int) * 4294967296) = (q3 : Int) := by rw [IntWalk.u64_in _ (by omega)]; omega
  have w8 : IntKind.u64.wrap ((q3 : Int) + Q0) = (divQ h l y : Int) := by rw [hqd, ← hq3, IntWalk.u64_in _ (by omega)]; omega
  have w9 : shiftI .shr .u64 R0 s = some (.int .u64 (divR h l y)) := by rw [shr_word (by omega), hrd]
  have hyhI : ¬ (y : Int) ≤ h := by omega
  simp [-BitVec.toNat_and, -BitVec.toNat_or, lf63, hy0, hyh, hh0, hlead, hws, hws2, e1, e2, e3, e4, e5, e6, e7, e8, e9, ha0, ha0', w1, w2, Tdiv_mu, Tdiv_lead]
  refine div_loop0 (g2 := .p (.int .u64 y')) (g8 := .p (.int .u64 s)) (g11 := .p (.int .u64 u)) (g14 := .p (.int .u64 d0)) (un := u) (d := d1) (a := a) (b := b) (q0 := q0) (r0 := r0) (Q := Q1) hua.symm hQ1 (by omega) haH haG hbG hd1G ?_ ?_ (by omega) (by simp) (by simp) (by simp) (by simp) (by simp) (by simp) (by simp) (by simp) (by simp) ?_
  ·rw [hq0]; exact digit_first hQ1 (by omega) hd1G
  ·rw [hq0]; exact first_le (by omega) haH hbG
  intro fr' f9 f10 f13 f15 f2 f8 f11 f14
  simp [f9, f10, f13, f15, f2, f8, f11, f14, w3, w4, w5, ha0, ha0']
  refine div_loop1 (g2 := .p (.int .u64 y')) (g8 := .p (.int .u64 s)) (g15 := .p (.int .u64 Q1)) (g17 := .p (.int .u64 R1)) (un := R1) (d := d0) (a := a) (b := b) (q0 := q2) (r0 := r2) (Q := Q0) hua2.symm hQ0 (by omega) haH haG hbG hd0G ?_ ?_ (by omega) (by simp [f9]) (by simp [f10]) (by simp [f14]) (by simp) (by simp) (by simp [f2]) (by simp [f8]) (by simp [f15]) (by simp) ?_
  ·rw [hq2]; exact digit_first hQ0 (by omega) hd0G
  ·rw [hq2]; exact first_le (by omega) haH hbG
  intro fr2 g9 g10 g14 g18 g2 g8 g15 g17
  simp [g9, g10, g14, g18, g2, g8, g15, g17, w6, w7, w8, w9]
end Go.Proofs.YtcbagnlidecmkaaGreatDoor.Nn

/-
 nat: a number by a limb.
-/
namespace Go.Proofs.YtcbagnlidecmkaaGreatDoor.Nn
open Go Go.Abs Go.Limbs
variable {base : Prot}
set_option maxRecDepth 20000
attribute [local irreducible] vc
attribute [local simp] pureS touchV freezeL fuel shiftV u64 au
theorem drop_set_self {l : List Nat} {m : Nat} (h : m < l.length) (x : Nat) : (l.set m x).drop m = x :: l.drop (m + 1) := by
 rw [drop_get (a := l.set m x) (x := x) (by simp [h]), List.drop_set_of_lt (by omega)]
end Go.Proofs.YtcbagnlidecmkaaGreatDoor.Nn

/-
 nat: a number times a power of two.
-/
namespace Go.Proofs.YtcbagnlidecmkaaGreatDoor.Nn
open Go Go.Abs Go.Limbs
variable {base : Prot}
set_option maxRecDepth 20000
attribute [local irreducible] vc
attribute [local simp] pureS touchV freezeL fuel shiftV u64 au
def Ttr : Tab := Tab.none
theorem Ttr_ok : TabOk Tryz.prog base Ttr := Tab.none_ok
theorem Ttr_mu (f : FuncId) (a : List AVal) (H : Heap) : Ttr.mu f a H = none := (rfl)
end Go.Proofs.YtcbagnlidecmkaaGreatDoor.Nn

/-
 nat: a number by a power of two.
-/
namespace Go.Proofs.YtcbagnlidecmkaaGreatDoor.Nn
open Go Go.Abs Go.Limbs
variable {base : Prot}
set_option maxRecDepth 20000
attribute [local irreducible] vc
attribute [local simp] pureS touchV freezeL fuel shiftV u64 au
end Go.Proofs.YtcbagnlidecmkaaGreatDoor.Nn

/-
 nat: the guess of a quotient's digit.
-/
namespace Go.Proofs.YtcbagnlidecmkaaGreatDoor.Nn
open Go Go.Abs Go.Limbs
variable {base : Prot}
set_option maxRecDepth 20000
attribute [local irreducible] vc
attribute [local simp] pureS touchV freezeL fuel shiftV u64 au
end Go.Proofs.YtcbagnlidecmkaaGreatDoor.Nn

/-
 nat: copies; what a long division does to a part of an own row.
-/
namespace Go.Proofs.YtcbagnlidecmkaaGreatDoor.Nn
open Go Go.Abs Go.Limbs
variable {base : Prot}
set_option maxRecDepth 20000
attribute [local irreducible] vc
attribute [local simp] pureS touchV freezeL fuel shiftV u64 au
def sClone : List PVal → Option PVal
 | [.lst es] => match decU es with | some l => if l.length ≤ 1000000 then some (lstP l) else none | none => none
 | _ => none
end Go.Proofs.YtcbagnlidecmkaaGreatDoor.Nn

/-
 nat: long division, its digit.
-/
namespace Go.Proofs.YtcbagnlidecmkaaGreatDoor.Nn
open Go Go.Abs Go.Limbs
variable {base : Prot}
set_option maxRecDepth 20000
attribute [local irreducible] vc
attribute [local simp] pureS touchV freezeL fuel shiftV u64 au
end Go.Proofs.YtcbagnlidecmkaaGreatDoor.Nn

/-
 nat: long division.
-/
namespace Go.Proofs.YtcbagnlidecmkaaGreatDoor.Nn
open Go Go.Abs Go.Limbs
variable {base : Prot}
set_option maxRecDepth 20000
attribute [local irreducible] vc
attribute [local simp] pureS touchV freezeL fuel shiftV u64 au
end Go.Proofs.YtcbagnlidecmkaaGreatDoor.Nn

/-
 nat: Common, and the functions that are called from outside.
-/
namespace Go.Proofs.YtcbagnlidecmkaaGreatDoor.Nn
open Go Go.Abs Go.Limbs
variable {base : Prot}
set_option maxRecDepth 20000
attribute [local irreducible] vc
attribute [local simp] pureS touchV freezeL fuel shiftV u64 au
def okL (l : List Nat) : Bool := decide (l.length ≤ 64) && decide (limbs (val l) = l)
theorem okL_true {l : List Nat} (h : okL l = true) : ∃ a, l = limbs a ∧ len a ≤ 64 := by
 unfold okL at h
 simp only [Bool.and_eq_true, decide_eq_true_eq] at h
 exact ⟨val l, h.2.symm, by unfold len; rw [h.2]; exact h.1⟩
theorem okL_num (a : Nat) : okL (limbs a) = decide (len a ≤ 64) := by
 unfold okL
 rw [val_limbs, decide_eq_true (rfl : limbs a = limbs a), Bool.and_true]
 rfl
theorem sValid_list {l : List Nat} (h : Wf l) : sValid [.lst (l.map u64)] = some (.bool (okL l)) := by
 simp only [sValid, decU_map h]; rfl
def pairP (p : List Nat × Nat) : PVal := .tup [lstP p.1, .int .i64 p.2]
def heldL (n : Nat) : List Nat × Nat := if len n ≤ 64 then (limbs n, 0) else ([], 4)
end Go.Proofs.YtcbagnlidecmkaaGreatDoor.Nn

/-
 nat: the functions called from outside, at numbers.
-/
namespace Go.Proofs.YtcbagnlidecmkaaGreatDoor.Nn
open Go Go.Abs Go.Limbs
theorem okL_limbs {a : Nat} (h : len a ≤ 64) : okL (limbs a) = true := by rw [okL_num]; exact decide_eq_true h
end Go.Proofs.YtcbagnlidecmkaaGreatDoor.Nn
