/-
  Floats of 64 bits: quotients rounded down, products by powers of two. The plain law.
-/
import Derived.Test.YtbdccebpehogjaaFloA
set_option linter.unusedSimpArgs false
set_option linter.unnecessarySimpa false
set_option linter.unusedVariables false
set_option linter.constructorNameAsVariable false

/-
 A fraction cut to 53 binary digits: the quotient and the place tell the rung below it.
-/
namespace Go.Flo
def qt (n d : Nat) (b : Int) : Nat := if 0 ≤ b then n * 2 ^ b.toNat / d else n / (d * 2 ^ (-b).toNat)
def qr (n d : Nat) (b : Int) : Nat := if 0 ≤ b then n * 2 ^ b.toNat % d else n % (d * 2 ^ (-b).toNat)
def pk (b : Int) : Nat := (1074 - b).toNat
theorem pk_split {b : Int} (h : b ≤ 1074) : (0 ≤ b ∧ sc = 2 ^ b.toNat * 2 ^ pk b) ∨ (b < 0 ∧ 2 ^ pk b = sc * 2 ^ (-b).toNat) := by
 unfold pk sc
 by_cases h0 : 0 ≤ b
 ·refine .inl ⟨h0, ?_⟩
  rw [← Nat.pow_add]
  congr 1
  omega
 ·refine .inr ⟨by omega, ?_⟩
  rw [← Nat.pow_add 2 1074 (-b).toNat]
  congr 1
  omega
theorem qt_is {n d : Nat} {b : Int} (h : b ≤ 1074) : qt n d b = n * sc / d / 2 ^ pk b := by
 unfold qt
 rw [Nat.div_div_eq_div_mul]
 rcases pk_split h with ⟨h0, e⟩ | ⟨h0, e⟩
 ·rw [if_pos h0, e, ← Nat.mul_assoc, Nat.mul_div_mul_right _ _ (two_pos _)]
 ·rw [if_neg (by omega), e, Nat.mul_comm sc, ← Nat.mul_assoc, Nat.mul_div_mul_right _ _ sc_pos]
theorem qr_is {n d : Nat} {b : Int} (h : b ≤ 1074) : qr n d b = 0 ↔ qt n d b * 2 ^ pk b * d = n * sc := by
 unfold qr qt
 rcases pk_split h with ⟨h0, e⟩ | ⟨h0, e⟩
 ·rw [if_pos h0, if_pos h0, e]
  have hm := Nat.div_add_mod (n * 2 ^ b.toNat) d
  generalize n * 2 ^ b.toNat / d = q at hm ⊢
  have e1 : q * 2 ^ pk b * d = d * q * 2 ^ pk b := by rw [Nat.mul_comm (q * 2 ^ pk b), Nat.mul_assoc]
  have e2 : n * (2 ^ b.toNat * 2 ^ pk b) = n * 2 ^ b.toNat * 2 ^ pk b := by rw [Nat.mul_assoc]
  rw [e1, e2]
  have hp := two_pos (pk b)
  constructor
  ·intro hr
   have : d * q = n * 2 ^ b.toNat := by omega
   rw [this]
  ·intro hh
   have := Nat.eq_of_mul_eq_mul_right hp hh
   omega
 ·rw [if_neg (by omega), if_neg (by omega), e]
  have hm := Nat.div_add_mod n (d * 2 ^ (-b).toNat)
  generalize n / (d * 2 ^ (-b).toNat) = q at hm ⊢
  have e1 : q * (sc * 2 ^ (-b).toNat) * d = d * 2 ^ (-b).toNat * q * sc := by
   rw [Nat.mul_comm sc, ← Nat.mul_assoc, Nat.mul_assoc (q * _), Nat.mul_comm sc d, ← Nat.mul_assoc, Nat.mul_comm q, Nat.mul_assoc _ q d, Nat.mul_comm q d, ← Nat.mul_assoc, Nat.mul_comm _ d]
  rw [e1]
  constructor
  ·intro hr
   have : d * 2 ^ (-b).toNat * q = n := by omega
   rw [this]
  ·intro hh
   have := Nat.eq_of_mul_eq_mul_right sc_pos hh
   omega
theorem qt_half {n d : Nat} {b : Int} (h : b ≤ 1074) : qt n d (b - 1) = qt n d b / 2 := by
 rw [qt_is h, qt_is (by omega), Nat.div_div_eq_div_mul _ (2 ^ pk b), ← Nat.pow_succ]
 congr 2
 unfold pk; omega
theorem qr_half {n d : Nat} {b : Int} (hd : 0 < d) (h : b ≤ 1074) : (qr n d (b - 1) = 0 ↔ (qr n d b = 0 ∧ qt n d b % 2 = 0)) := by
 rw [qr_is h, qr_is (show b - 1 ≤ 1074 by omega), qt_half h]
 have e : 2 ^ pk (b - 1) = 2 * 2 ^ pk b := by
  rw [show pk (b - 1) = pk b + 1 by unfold pk; omega, Nat.pow_succ, Nat.mul_comm]
 rw [e]
 have hle : qt n d b * 2 ^ pk b * d ≤ n * sc := by
  rw [qt_is h]
  exact Nat.le_trans (Nat.mul_le_mul_right d (Nat.div_mul_le_self _ _)) (Nat.div_mul_le_self _ _)
 generalize qt n d b = q at *
 have e2 : q / 2 * (2 * 2 ^ pk b) * d = (q / 2 * 2) * (2 ^ pk b * d) := by rw [← Nat.mul_assoc, Nat.mul_assoc _ _ d]
 have e3 : q * 2 ^ pk b * d = q * (2 ^ pk b * d) := by rw [Nat.mul_assoc]
 rw [e3] at hle
 rw [e2, e3]
 constructor
 ·intro hh
  have h1 : q / 2 * 2 * (2 ^ pk b * d) ≤ q * (2 ^ pk b * d) := Nat.mul_le_mul_right _ (Nat.div_mul_le_self _ _)
  have h2 : q * (2 ^ pk b * d) = n * sc := by omega
  refine ⟨h2, ?_⟩
  have hz : 0 < 2 ^ pk b * d := Nat.mul_pos (two_pos _) hd
  have := Nat.eq_of_mul_eq_mul_right hz (hh.trans h2.symm)
  omega
 ·rintro ⟨h1, h2⟩
  have : q / 2 * 2 = q := by omega
  rw [this]; exact h1
theorem first_try {n d sn sd : Nat} {b : Int} (hn1 : 2 ^ sn ≤ n) (hn2 : n < 2 ^ (sn + 1)) (hd1 : 2 ^ sd ≤ d) (hd2 : d < 2 ^ (sd + 1)) (hb : b = min (53 - ((sn : Int) - sd)) 1074) :
  b ≤ 1074 ∧ qt n d b < 18014398509481984 ∧ (b = 1074 ∨ 4503599627370496 ≤ qt n d b) ∧ (b = 1074 → qt n d b < 9007199254740992 ∨ b = 53 - ((sn : Int) - sd)) := by
 have hd0 : 0 < d := Nat.lt_of_lt_of_le (two_pos sd) hd1
 have hsn := two_pos sn
 have hsd := two_pos sd
 refine ⟨by omega, ?_, ?_, ?_⟩
 · -- below 2 ^ 54
  unfold qt
  by_cases h0 : 0 ≤ b
  ·rw [if_pos h0, Nat.div_lt_iff_lt_mul hd0]
   have h1 : n * 2 ^ b.toNat < 2 ^ (sn + 1) * 2 ^ b.toNat := Nat.mul_lt_mul_of_pos_right hn2 (two_pos _)
   have h2 : 2 ^ (sn + 1) * 2 ^ b.toNat ≤ 2 ^ (54 + sd) := by
    rw [← Nat.pow_add]; exact pow_mono (by omega)
   have h3 : 2 ^ (54 + sd) ≤ 18014398509481984 * d := by rw [Nat.pow_add]; exact Nat.mul_le_mul_left _ hd1
   omega
  ·have hd3 : 0 < d * 2 ^ (-b).toNat := Nat.mul_pos hd0 (two_pos _)
   rw [if_neg h0, Nat.div_lt_iff_lt_mul hd3]
   have h2 : 2 ^ (sn + 1) ≤ 18014398509481984 * (2 ^ sd * 2 ^ (-b).toNat) := by
    have : 2 ^ (sn + 1) ≤ 2 ^ (54 + (sd + (-b).toNat)) := pow_mono (by omega)
    rw [Nat.pow_add 2 54, Nat.pow_add 2 sd] at this; exact this
   have h3 : 2 ^ sd * 2 ^ (-b).toNat ≤ d * 2 ^ (-b).toNat := Nat.mul_le_mul_right _ hd1
   have := Nat.mul_le_mul_left 18014398509481984 h3
   omega
 ·by_cases hc : b = 1074
  ·exact .inl hc
  ·refine .inr ?_
   unfold qt
   by_cases h0 : 0 ≤ b
   ·rw [if_pos h0, Nat.le_div_iff_mul_le hd0]
    have h1 : 2 ^ sn * 2 ^ b.toNat ≤ n * 2 ^ b.toNat := Nat.mul_le_mul_right _ hn1
    have h2 : 2 ^ (52 + (sd + 1)) ≤ 2 ^ sn * 2 ^ b.toNat := by
     rw [← Nat.pow_add]; exact pow_mono (by omega)
    rw [Nat.pow_add] at h2
    have h3 := Nat.mul_le_mul_left (2 ^ 52) (Nat.le_of_lt hd2)
    exact Nat.le_trans h3 (Nat.le_trans h2 h1)
   ·have hd3 : 0 < d * 2 ^ (-b).toNat := Nat.mul_pos hd0 (two_pos _)
    rw [if_neg h0, Nat.le_div_iff_mul_le hd3]
    have h2 : 2 ^ (52 + (sd + 1 + (-b).toNat)) ≤ 2 ^ sn := pow_mono (by omega)
    rw [Nat.pow_add 2 52, Nat.pow_add 2 (sd + 1)] at h2
    have h3 : d * 2 ^ (-b).toNat ≤ 2 ^ (sd + 1) * 2 ^ (-b).toNat := Nat.mul_le_mul_right _ (Nat.le_of_lt hd2)
    exact Nat.le_trans (Nat.mul_le_mul_left (2 ^ 52) h3) (Nat.le_trans h2 hn1)
 ·intro hc
  by_cases hm : 53 - ((sn : Int) - sd) = 1074
  ·exact .inr (by omega)
  ·refine .inl ?_
   unfold qt
   rw [if_pos (by omega), Nat.div_lt_iff_lt_mul hd0]
   have h1 : n * 2 ^ b.toNat < 2 ^ (sn + 1) * 2 ^ b.toNat := Nat.mul_lt_mul_of_pos_right hn2 (two_pos _)
   have h2 : 2 ^ (sn + 1) * 2 ^ b.toNat ≤ 2 ^ (53 + sd) := by
    rw [← Nat.pow_add]; exact pow_mono (by omega)
   have h3 : 2 ^ (53 + sd) ≤ 9007199254740992 * d := by rw [Nat.pow_add]; exact Nat.mul_le_mul_left _ hd1
   omega
theorem rung_of {n d : Nat} {b : Int} (hd : 0 < d) (hb : b ≤ 1074) (hq : qt n d b < 9007199254740992) (hk : b = 1074 ∨ 4503599627370496 ≤ qt n d b) :
  (pk b ≤ 2045 → loR n d = pk b * 4503599627370496 + qt n d b ∧ mg (loR n d) = qt n d b * 2 ^ pk b ∧ loR n d < 9218868437227405312 ∧ (upR n d = if qr n d b = 0 then loR n d else loR n d + 1)) ∧
  (2046 ≤ pk b → loR n d = 9218868437227405311 ∧ upR n d = 9218868437227405312) := by
 have ht := qt_is (n := n) (d := d) hb
 have hr := qr_is (n := n) (d := d) hb
 have hlo : n * sc / d * d ≤ n * sc := Nat.div_mul_le_self _ _
 have hk0 : b = 1074 → pk b = 0 := fun h => by unfold pk; omega
 have hkx : kx (n * sc / d) = pk b := by
  rcases hk with h | h
  ·rw [hk0 h] at ht ⊢
   rw [Nat.pow_zero, Nat.div_one] at ht
   rw [← ht]
   exact kx_small hq
  ·rw [ht] at h hq
   exact kx_is ((Nat.le_div_iff_mul_le (two_pos _)).1 h) ((Nat.div_lt_iff_lt_mul (two_pos _)).1 hq)
 have hdn : dn (n * sc / d) = pk b * 4503599627370496 + qt n d b := by
  unfold dn
  rw [hkx, ← ht]
 refine ⟨fun hp => ?_, fun hp => ?_⟩
 ·have e : loR n d = pk b * 4503599627370496 + qt n d b := by
   unfold loR
   rw [hdn]; omega
  have em : mg (loR n d) = qt n d b * 2 ^ pk b := by
   rw [e]
   rcases hk with h | h
   ·rw [hk0 h, Nat.zero_mul, Nat.zero_add, Nat.pow_zero, Nat.mul_one, mg_small (by omega)]
   ·exact mg_join h (by omega)
  refine ⟨e, em, by omega, ?_⟩
  unfold upR
  rw [em]
  by_cases h0 : qr n d b = 0
  ·rw [if_pos h0, if_pos (hr.1 h0)]
  ·rw [if_neg h0, if_neg (fun h => h0 (hr.2 h))]
 ·have hq2 := hk.resolve_left (fun h => by rw [hk0 h] at hp; omega)
  have e : loR n d = 9218868437227405311 := by
   unfold loR
   rw [hdn]; omega
  refine ⟨e, ?_⟩
  unfold upR
  rw [if_neg, e]
  intro hh
  have h1 : mg (loR n d) < mg (dn (n * sc / d)) := mg_lt (by rw [e, hdn]; omega)
  have h2 := Nat.mul_lt_mul_of_pos_right h1 hd
  have h3 := Nat.mul_le_mul_right d (dn_le (n * sc / d))
  omega
end Go.Flo

/-
 Floats of 64 bits: products with powers of two, conversions, and the bits of words.
-/
namespace Go.Flo
open Ieee
theorem read_pow {E : Nat} (h1 : 1 ≤ E) (h2 : E < 2047) : double.read (wd false (E * 4503599627370496)) = .number false 4503599627370496 (((E - 1 : Nat) : Int) - 1074) := by
 have hs : sg (wd false (E * 4503599627370496)) = false := sg_wd false (by omega)
 have hr : rg (wd false (E * 4503599627370496)) = E * 4503599627370496 := rg_wd false (by omega)
 unfold Format.read
 simp only [d_sgn, d_binade, d_inf, d_least]
 have e1 : (wd false (E * 4503599627370496) / 9223372036854775808 % 2 == 1) = false := hs
 have e2 : wd false (E * 4503599627370496) % 9223372036854775808 = E * 4503599627370496 := hr
 rw [e1, e2, if_neg (by omega), if_pos (by omega)]
 have e3 : E * 4503599627370496 % 4503599627370496 = 0 := by omega
 have e4 : E * 4503599627370496 / 4503599627370496 = E := by omega
 rw [e3, e4]
 congr 1
theorem mul_pow {x E r : Nat} (hx : Fin64 x) (hx0 : 0 < rg x) (h1 : 1 ≤ E) (h2 : E < 2047) (hr : r < 9218868437227405312) (h : mg (rg x) * 2 ^ (51 + E) = mg r * sc) :
  double.mul x (wd false (E * 4503599627370496)) = some (wd (sg x) r) := by
 obtain ⟨m, p, e1, f1⟩ := read_fin hx
 have hm := mg_pos hx0
 have hr0 : 0 < r := by
  refine Nat.pos_of_ne_zero fun h0 => ?_
  subst h0
  rw [mg_zero, Nat.zero_mul] at h
  have := Nat.mul_pos hm (two_pos (51 + E))
  omega
 have hm0 : m * 4503599627370496 ≠ 0 := by
  intro h0
  have : m = 0 := by omega
  rw [this, Nat.zero_mul] at f1
  omega
 unfold Format.mul
 rw [e1, read_pow h1 h2]
 simp only [Datum.product, Option.map_some, Format.write, Bool.xor_false]
 rw [← f1] at h
 have key : m * 4503599627370496 * 2 ^ (p + (E - 1)) = mg r * sc := by
  rw [← h, Nat.mul_assoc, Nat.mul_assoc]
  congr 1
  have : 4503599627370496 = 2 ^ 52 := by decide
  rw [this, ← Nat.pow_add, ← Nat.pow_add]
  congr 1
  omega
 by_cases hP : 1074 ≤ p + (E - 1)
 ·obtain ⟨P, hP⟩ : ∃ P, p + (E - 1) = P + 1074 := ⟨p + (E - 1) - 1074, by omega⟩
  rw [hP, Nat.pow_add, ← Nat.mul_assoc] at key
  unfold sc at key
  have key := Nat.eq_of_mul_eq_mul_right (two_pos 1074) key
  have e2 : (p : Int) - 1074 + (((E - 1 : Nat) : Int) - 1074) = (P : Int) - 1074 := by omega
  rw [e2, nearest_is _ P hm0, key, rn_mg, Nat.min_eq_left (Nat.le_of_lt hr)]
 ·obtain ⟨d, hd⟩ : ∃ d, p + (E - 1) + d = 1074 := ⟨1074 - (p + (E - 1)), by omega⟩
  have e2 : (p : Int) - 1074 + (((E - 1 : Nat) : Int) - 1074) = -1074 - (d : Int) := by omega
  have e3 : m * 4503599627370496 = mg r * 2 ^ d := by
   have hs : sc = 2 ^ d * 2 ^ (p + (E - 1)) := by
    unfold sc
    rw [← Nat.pow_add]
    congr 1
    omega
   rw [hs, ← Nat.mul_assoc] at key
   exact Nat.eq_of_mul_eq_mul_right (two_pos _) key
  rw [e2, e3, nearest_fine _ d hr0 (Nat.le_of_lt hr)]
theorem nearest_int {n : Nat} (h0 : 0 < n) (h : n ≤ 9007199254740992) : ∃ r, double.nearest false n 0 = wd false r ∧ mg r = n * sc ∧ r < 9218868437227405312 ∧ 0 < r := by
 obtain ⟨r, hr⟩ := mg_of (m := n) (k := 1074) h
 have hr2 : r < 9218868437227405312 := by
  refine mg_lt_iff.1 ?_
  rw [hr]
  have e : mg 9218868437227405312 = 4503599627370496 * 2 ^ 2046 := by
   have := mg_join (k := 2046) (q := 4503599627370496) (Nat.le_refl _) (by decide)
   rw [← this]
  rw [e]
  have h1 := Nat.mul_le_mul_right (2 ^ 1074) h
  have h2 := pow_half (p := 1074) (q := 1075) (by decide)
  have h3 := pow_half (p := 1075) (q := 2046) (by decide)
  have hp := two_pos 1074
  omega
 have e := nearest_is false (mag := n) 1074 (by omega)
 rw [show ((1074 : Nat) : Int) - 1074 = 0 by omega, ← hr, rn_mg, Nat.min_eq_left (Nat.le_of_lt hr2)] at e
 have hr1 : mg r = n * sc := by unfold sc; exact hr
 refine ⟨r, e, hr1, hr2, Nat.pos_of_ne_zero fun hz => ?_⟩
 subst hz
 rw [mg_zero] at hr
 have := Nat.mul_pos h0 (two_pos 1074)
 omega
theorem toInt_int {b q : Nat} (h : Fin64 b) (hs : sg b = false) (hq : mg (rg b) = q * sc) : (double.read b).toInt .zero = some (q : Int) := by
 obtain ⟨m, p, e1, f1⟩ := read_fin h
 rw [e1, hs]
 rw [hq] at f1
 unfold Datum.toInt Datum.integral
 simp only
 have cut0 : ∀ n d : Nat, Toward.zero.cut false n d = n / 2 ^ min d (n.log2 + 2) := fun n d => by
  unfold Toward.cut
  simp [Nat.shiftLeft_eq]
 rw [cut0, signed_is, if_neg (by decide), Nat.pow_zero, Nat.mul_one, Nat.shiftLeft_eq]
 congr 2
 by_cases hp : 1074 ≤ p
 ·have e2 : ((p : Int) - 1074).toNat = p - 1074 := by omega
  have e3 : (-((p : Int) - 1074)).toNat = 0 := by omega
  rw [e2, e3, Nat.zero_min, Nat.pow_zero, Nat.div_one]
  have e4 : 2 ^ p = 2 ^ (p - 1074) * sc := by unfold sc; rw [← Nat.pow_add 2 (p - 1074) 1074]; congr 1; omega
  rw [e4, ← Nat.mul_assoc] at f1
  exact Nat.eq_of_mul_eq_mul_right sc_pos f1
 ·obtain ⟨d, hd⟩ : ∃ d, p + d = 1074 := ⟨1074 - p, by omega⟩
  have e2 : ((p : Int) - 1074).toNat = 0 := by omega
  have e3 : (-((p : Int) - 1074)).toNat = d := by omega
  rw [e2, e3, Nat.pow_zero, Nat.mul_one]
  have e4 : sc = 2 ^ d * 2 ^ p := by unfold sc; rw [← Nat.pow_add]; congr 1; omega
  rw [e4, ← Nat.mul_assoc] at f1
  have e5 := Nat.eq_of_mul_eq_mul_right (two_pos p) f1
  by_cases hq0 : q = 0
  ·subst hq0
   rw [Nat.zero_mul] at e5
   rw [e5, Nat.zero_div]
  ·have e6 : d ≤ m.log2 := by
    have hm : m ≠ 0 := by rw [e5]; exact Nat.mul_ne_zero hq0 (by have := two_pos d; omega)
    refine (Nat.le_log2 hm).2 ?_
    rw [e5]
    exact Nat.le_mul_of_pos_left _ (Nat.pos_of_ne_zero hq0)
   rw [Nat.min_eq_left (by omega), e5, Nat.mul_div_cancel _ (two_pos d)]
theorem and_low (b : Nat) : b &&& 9223372036854775807 = b % 9223372036854775808 := Nat.and_two_pow_sub_one_eq_mod b 63
theorem p63 : (2 : Nat) ^ 63 = 9223372036854775808 := by decide
theorem p52 : (2 : Nat) ^ 52 = 4503599627370496 := by decide
theorem p11 : (2 : Nat) ^ 11 = 2048 := by decide
theorem and_sign {b : Nat} (h : b < 18446744073709551616) : b &&& 9223372036854775808 = b / 9223372036854775808 * 9223372036854775808 := by
 have h1 := Nat.and_div_two_pow (a := b) (b := 9223372036854775808) (n := 63)
 have h2 := Nat.and_mod_two_pow (a := b) (b := 9223372036854775808) (n := 63)
 rw [p63] at h1 h2
 rw [Nat.div_self (by decide), Nat.and_one_is_mod] at h1
 rw [Nat.mod_self, Nat.and_zero] at h2
 omega
theorem or_sum {a b : Nat} (i : Nat) (h : b < 2 ^ i) : 2 ^ i * a ||| b = 2 ^ i * a + b := (Nat.two_pow_add_eq_or_of_lt h a).symm
theorem and_clear {b : Nat} (h : b < 18446744073709551616) : b &&& 9227875636482146303 = b / 9223372036854775808 * 9223372036854775808 + b % 4503599627370496 := by
 have e : (9227875636482146303 : Nat) = 9223372036854775808 ||| 4503599627370495 := by decide
 rw [e, Nat.and_or_distrib_left, and_sign h]
 have e2 : b &&& 4503599627370495 = b % 4503599627370496 := Nat.and_two_pow_sub_one_eq_mod b 52
 have := or_sum (a := b / 9223372036854775808) (b := b % 4503599627370496) 63 (by rw [p63]; omega)
 rw [p63] at this
 rw [e2, Nat.mul_comm, this]
theorem or_field {s f E : Nat} (hf : f < 4503599627370496) (hE : E < 2048) : s * 9223372036854775808 + f ||| E * 4503599627370496 = s * 9223372036854775808 + (E * 4503599627370496 + f) := by
 have hf2 : f < 2 ^ 52 := by rw [p52]; exact hf
 have e0 : s * 9223372036854775808 = 2 ^ 52 * (2048 * s) := by rw [p52]; omega
 have e1 : s * 9223372036854775808 + f = 2 ^ 52 * (2048 * s) ||| f := by
  rw [or_sum 52 hf2, e0]
 have e2 : E * 4503599627370496 = 2 ^ 52 * E := by rw [p52, Nat.mul_comm]
 have e3 : 2 ^ 52 * (2048 * s) ||| 2 ^ 52 * E = 2 ^ 52 * (2048 * s + E) := by
  have h1 := Nat.shiftLeft_or_distrib (a := 2048 * s) (b := E) (i := 52)
  rw [Nat.shiftLeft_eq, Nat.shiftLeft_eq, Nat.shiftLeft_eq] at h1
  have h2 := or_sum (a := s) (b := E) 11 (by rw [p11]; exact hE)
  rw [p11] at h2
  rw [h2, Nat.mul_comm, Nat.mul_comm (2048 * s), Nat.mul_comm E] at h1
  exact h1.symm
 rw [e1, e2, Nat.or_assoc, Nat.or_comm f, ← Nat.or_assoc, e3, or_sum 52 hf2, p52]
 omega
end Go.Flo
