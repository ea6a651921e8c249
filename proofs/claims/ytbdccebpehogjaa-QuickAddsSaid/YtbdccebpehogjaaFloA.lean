/-
  Floats of 64 bits as rungs: sums, the nearest, the error of a rounded sum, the floats next to a fraction. The plain law.
-/
import Ieee.Arith
set_option linter.unusedSimpArgs false
set_option linter.unnecessarySimpa false
set_option linter.unusedVariables false
set_option linter.constructorNameAsVariable false

/-
 Floats of 64 bits as rungs: the plain arithmetic, on whole numbers of 2^-1074.
-/
namespace Go.Flo
open Ieee
def mg (r : Nat) : Nat := if r < 4503599627370496 then r else (4503599627370496 + r % 4503599627370496) * 2 ^ (r / 4503599627370496 - 1)
theorem two_pos (k : Nat) : 0 < 2 ^ k := Nat.two_pow_pos k
theorem mg_small {r : Nat} (h : r ≤ 9007199254740992) : mg r = r := by
 unfold mg
 split
 ·rfl
 ·by_cases h2 : r = 9007199254740992
  ·subst h2; decide
  ·have e1 : r / 4503599627370496 = 1 := by omega
   have e2 : r % 4503599627370496 = r - 4503599627370496 := by omega
   rw [e1, e2, Nat.sub_self, Nat.pow_zero, Nat.mul_one]; omega
theorem mg_join {k q : Nat} (h1 : 4503599627370496 ≤ q) (h2 : q ≤ 9007199254740992) : mg (k * 4503599627370496 + q) = q * 2 ^ k := by
 unfold mg
 rw [if_neg (by omega)]
 by_cases h : q = 9007199254740992
 ·subst h
  have e1 : (k * 4503599627370496 + 9007199254740992) / 4503599627370496 - 1 = k + 1 := by omega
  have e2 : (k * 4503599627370496 + 9007199254740992) % 4503599627370496 = 0 := by omega
  rw [e1, e2, Nat.pow_succ]; omega
 ·have e1 : (k * 4503599627370496 + q) / 4503599627370496 - 1 = k := by omega
  have e2 : 4503599627370496 + (k * 4503599627370496 + q) % 4503599627370496 = q := by omega
  rw [e1, e2]
theorem rung_cases (r : Nat) : r < 4503599627370496 ∨ ∃ k q, 4503599627370496 ≤ q ∧ q < 9007199254740992 ∧ r = k * 4503599627370496 + q := by
 by_cases h : r < 4503599627370496
 ·exact .inl h
 ·exact .inr ⟨r / 4503599627370496 - 1, r % 4503599627370496 + 4503599627370496, by omega, by omega, by omega⟩
theorem mg_succ (r : Nat) : mg r < mg (r + 1) := by
 rcases rung_cases r with h | ⟨k, q, h1, h2, rfl⟩
 ·rw [mg_small (by omega), mg_small (by omega)]; omega
 ·rw [Nat.add_assoc, mg_join h1 (by omega), mg_join (q := q + 1) (by omega) (by omega)]
  exact Nat.mul_lt_mul_of_pos_right (Nat.lt_succ_self q) (two_pos k)
theorem mg_lt {r s : Nat} (h : r < s) : mg r < mg s := by
 induction s with
 | zero => omega
 | succ s ih =>
  by_cases e : r = s
  ·subst e; exact mg_succ r
  ·exact Nat.lt_trans (ih (by omega)) (mg_succ s)
theorem mg_le {r s : Nat} (h : r ≤ s) : mg r ≤ mg s := by
 rcases Nat.lt_or_eq_of_le h with h | h
 ·exact Nat.le_of_lt (mg_lt h)
 ·rw [h]; exact Nat.le_refl _
theorem mg_lt_iff {r s : Nat} : mg r < mg s ↔ r < s :=
 ⟨fun h => Decidable.byContradiction fun hn => by have := mg_le (r := s) (s := r) (by omega); omega, mg_lt⟩
theorem mg_le_iff {r s : Nat} : mg r ≤ mg s ↔ r ≤ s :=
 ⟨fun h => Decidable.byContradiction fun hn => by have := mg_lt (r := s) (s := r) (by omega); omega, mg_le⟩
theorem mg_inj {r s : Nat} (h : mg r = mg s) : r = s := by
 have h1 := mg_le_iff.1 (Nat.le_of_eq h)
 have h2 := mg_le_iff.1 (Nat.le_of_eq h.symm)
 omega
theorem mg_zero : mg 0 = 0 := by decide
theorem mg_pos {r : Nat} (h : 0 < r) : 0 < mg r := by have := mg_lt h; rw [mg_zero] at this; exact this
def kx (t : Nat) : Nat := t.log2 - 52
def dn (t : Nat) : Nat := kx t * 4503599627370496 + t / 2 ^ kx t
theorem log2_is {t n : Nat} (h1 : 2 ^ n ≤ t) (h2 : t < 2 ^ (n + 1)) : t.log2 = n := by
 have hp := two_pos n
 have h0 : t ≠ 0 := by omega
 have a := (Nat.le_log2 h0).2 h1
 have b := (Nat.log2_lt h0).2 h2
 omega
theorem log2_bd {t : Nat} (h : t ≠ 0) : 2 ^ t.log2 ≤ t ∧ t < 2 ^ (t.log2 + 1) := ⟨(Nat.le_log2 h).1 (Nat.le_refl _), (Nat.log2_lt h).1 (Nat.lt_succ_self _)⟩
theorem kx_cases (t : Nat) : (kx t = 0 ∧ t < 9007199254740992) ∨ (0 < kx t ∧ 4503599627370496 * 2 ^ kx t ≤ t ∧ t < 9007199254740992 * 2 ^ kx t) := by
 by_cases h0 : t = 0
 ·subst h0; exact .inl ⟨by decide, by decide⟩
 obtain ⟨h1, h2⟩ := log2_bd h0
 unfold kx
 by_cases h : t.log2 ≤ 52
 ·refine .inl ⟨by omega, Nat.lt_of_lt_of_le h2 ?_⟩
  have : 2 ^ (t.log2 + 1) ≤ 2 ^ 53 := Nat.pow_le_pow_right (by omega) (by omega)
  exact this
 ·obtain ⟨k, hk⟩ : ∃ k, t.log2 = 52 + k := ⟨t.log2 - 52, by omega⟩
  rw [hk] at h1 h2 ⊢
  have e1 : 2 ^ (52 + k) = 4503599627370496 * 2 ^ k := by rw [Nat.pow_add]
  have e2 : 2 ^ (52 + k + 1) = 9007199254740992 * 2 ^ k := by rw [show 52 + k + 1 = 53 + k by omega, Nat.pow_add]
  have e3 : 52 + k - 52 = k := by omega
  rw [e1] at h1
  rw [e2] at h2
  rw [e3]
  exact .inr ⟨by omega, h1, h2⟩
theorem kx_is {t k : Nat} (h1 : 4503599627370496 * 2 ^ k ≤ t) (h2 : t < 9007199254740992 * 2 ^ k) : kx t = k := by
 unfold kx
 rw [log2_is (n := 52 + k) (by rw [Nat.pow_add]; exact h1) (by rw [show 52 + k + 1 = 53 + k by omega, Nat.pow_add]; exact h2)]
 omega
theorem kx_small {t : Nat} (h : t < 9007199254740992) : kx t = 0 := by
 rcases kx_cases t with ⟨h1, _⟩ | ⟨h1, h2, _⟩
 ·exact h1
 ·have : 2 ^ 1 ≤ 2 ^ kx t := Nat.pow_le_pow_right (by omega) (by omega)
  omega
theorem mg_dn (t : Nat) : mg (dn t) = t / 2 ^ kx t * 2 ^ kx t := by
 unfold dn
 rcases kx_cases t with ⟨h1, h2⟩ | ⟨h1, h2, h3⟩
 ·rw [h1, Nat.pow_zero, Nat.div_one, Nat.zero_mul, Nat.zero_add, mg_small (by omega), Nat.mul_one]
 ·exact mg_join ((Nat.le_div_iff_mul_le (two_pos _)).2 h2) (Nat.le_of_lt ((Nat.div_lt_iff_lt_mul (two_pos _)).2 h3))
theorem mg_dn_succ (t : Nat) : mg (dn t + 1) = (t / 2 ^ kx t + 1) * 2 ^ kx t := by
 unfold dn
 rw [Nat.add_assoc]
 rcases kx_cases t with ⟨h1, h2⟩ | ⟨h1, h2, h3⟩
 ·rw [h1, Nat.pow_zero, Nat.div_one, Nat.zero_mul, Nat.zero_add, mg_small (by omega), Nat.mul_one]
 ·have a := (Nat.le_div_iff_mul_le (two_pos (kx t))).2 h2
  have b := (Nat.div_lt_iff_lt_mul (two_pos (kx t))).2 h3
  exact mg_join (by omega) (by omega)
theorem dn_le (t : Nat) : mg (dn t) ≤ t := by rw [mg_dn]; exact Nat.div_mul_le_self _ _
theorem dn_lt (t : Nat) : t < mg (dn t + 1) := by
 rw [mg_dn_succ]
 exact (Nat.div_lt_iff_lt_mul (two_pos _)).1 (Nat.lt_succ_self _)
theorem dn_is {t r : Nat} (h1 : mg r ≤ t) (h2 : t < mg (r + 1)) : dn t = r := by
 have a := mg_lt_iff.1 (Nat.lt_of_le_of_lt h1 (dn_lt t))
 have b := mg_lt_iff.1 (Nat.lt_of_le_of_lt (dn_le t) h2)
 omega
theorem le_dn {t r : Nat} : r ≤ dn t ↔ mg r ≤ t :=
 ⟨fun h => Nat.le_trans (mg_le h) (dn_le t), fun h => by have := mg_lt_iff.1 (Nat.lt_of_le_of_lt h (dn_lt t)); omega⟩
theorem dn_mg (r : Nat) : dn (mg r) = r := dn_is (Nat.le_refl _) (mg_succ r)
theorem dn_zero : dn 0 = 0 := by decide
def up1 (t : Nat) : Bool := decide (2 ^ kx t < 2 * (t % 2 ^ kx t)) || (decide (2 ^ kx t = 2 * (t % 2 ^ kx t)) && t / 2 ^ kx t % 2 == 1)
def rn (t : Nat) : Nat := dn t + (up1 t).toNat
theorem mod_of_mg {t r : Nat} (h : t = mg r) : t % 2 ^ kx t = 0 := by
 have e : mg (dn t) = t := by rw [h, dn_mg]
 rw [mg_dn] at e
 have := Nat.div_add_mod t (2 ^ kx t)
 rw [Nat.mul_comm] at this
 omega
theorem up1_mg (r : Nat) : up1 (mg r) = false := by
 unfold up1
 rw [mod_of_mg rfl]
 have := two_pos (kx (mg r))
 simp
theorem rn_mg (r : Nat) : rn (mg r) = r := by
 unfold rn
 rw [up1_mg, dn_mg, Bool.toNat_false, Nat.add_zero]
theorem rn_cases (t : Nat) : rn t = dn t ∨ (rn t = dn t + 1 ∧ mg (dn t) < t) := by
 unfold rn
 cases h : up1 t with
 | false => exact .inl (by rw [Bool.toNat_false, Nat.add_zero])
 | true =>
  refine .inr ⟨by rw [Bool.toNat_true], ?_⟩
  have hp := two_pos (kx t)
  have : 0 < t % 2 ^ kx t := by
   unfold up1 at h
   simp only [Bool.or_eq_true, Bool.and_eq_true, decide_eq_true_eq] at h
   omega
  rw [mg_dn]
  have := Nat.div_add_mod t (2 ^ kx t)
  rw [Nat.mul_comm] at this
  omega
theorem rn_near (t : Nat) : 2 * mg (rn t) ≤ 2 * t + 2 ^ kx t ∧ 2 * t ≤ 2 * mg (rn t) + 2 ^ kx t := by
 have hm := Nat.div_add_mod t (2 ^ kx t)
 rw [Nat.mul_comm] at hm
 have hl := Nat.mod_lt t (two_pos (kx t))
 unfold rn
 cases h : up1 t with
 | false =>
  have : 2 * (t % 2 ^ kx t) ≤ 2 ^ kx t := by
   unfold up1 at h
   simp only [Bool.or_eq_false_iff, decide_eq_false_iff_not] at h
   omega
  rw [Bool.toNat_false, Nat.add_zero, mg_dn]; omega
 | true =>
  have : 2 ^ kx t ≤ 2 * (t % 2 ^ kx t) := by
   unfold up1 at h
   simp only [Bool.or_eq_true, Bool.and_eq_true, decide_eq_true_eq] at h
   omega
  rw [Bool.toNat_true, mg_dn_succ, Nat.add_mul]; omega
theorem rn_mono_mg {t r : Nat} (h : mg r ≤ t) : r ≤ rn t := by
 have := le_dn.2 h
 unfold rn; omega
theorem rn_le_mg {t r : Nat} (h : t ≤ mg r) : rn t ≤ r := by
 rcases rn_cases t with h1 | ⟨h1, h2⟩
 ·rw [h1]
  exact mg_le_iff.1 (Nat.le_trans (dn_le t) h)
 ·rw [h1]
  have := mg_lt_iff.1 (Nat.lt_of_lt_of_le h2 h)
  omega
theorem rn_div (t : Nat) : ∃ m, mg (rn t) = m * 2 ^ kx t ∧ m ≤ 9007199254740992 := by
 have hq : t / 2 ^ kx t < 9007199254740992 := by
  rcases kx_cases t with ⟨h1, h2⟩ | ⟨h1, h2, h3⟩
  ·rw [h1, Nat.pow_zero, Nat.div_one]; exact h2
  ·exact (Nat.div_lt_iff_lt_mul (two_pos _)).2 h3
 rcases rn_cases t with h | ⟨h, _⟩
 ·rw [h, mg_dn]; exact ⟨_, rfl, by omega⟩
 ·rw [h, mg_dn_succ]; exact ⟨_, rfl, by omega⟩
theorem mg_of {m k : Nat} (h : m ≤ 9007199254740992) : ∃ r, mg r = m * 2 ^ k := by
 induction k generalizing m with
 | zero => exact ⟨m, by rw [mg_small h, Nat.pow_zero, Nat.mul_one]⟩
 | succ k ih =>
  by_cases h1 : m ≤ 4503599627370496
  ·obtain ⟨r, hr⟩ := ih (m := 2 * m) (by omega)
   exact ⟨r, by rw [hr, Nat.pow_succ, Nat.mul_comm 2 m, Nat.mul_assoc, Nat.mul_comm 2]⟩
  ·exact ⟨(k + 1) * 4503599627370496 + m, mg_join (by omega) h⟩
theorem rn_exact {t m k : Nat} (h : m ≤ 9007199254740992) (e : t = m * 2 ^ k) : mg (rn t) = t := by
 obtain ⟨r, hr⟩ := mg_of (k := k) h
 rw [e, ← hr, rn_mg]
end Go.Flo

/-
 Floats of 64 bits: what the operations on words do, in whole numbers of 2^-1074.
-/
namespace Go.Flo
open Ieee
theorem d_least : double.leastPlace = -1074 := by decide
theorem d_binade : double.binade = 4503599627370496 := by decide
theorem d_inf : double.infRung = 9218868437227405312 := by decide
theorem d_sgn : double.signWeight = 9223372036854775808 := by decide
theorem d_frac : (double.fractionBits : Int) = 52 := rfl
theorem d_word (neg : Bool) (r : Nat) : double.word neg r = if neg then 9223372036854775808 + r else r := by
 unfold Format.word
 rw [d_sgn]
def wd (neg : Bool) (r : Nat) : Nat := if neg then 9223372036854775808 + r else r
theorem log2_shift {m : Nat} (p : Nat) (h : m ≠ 0) : (m * 2 ^ p).log2 = m.log2 + p := by
 obtain ⟨h1, h2⟩ := log2_bd h
 refine log2_is ?_ ?_
 ·rw [Nat.pow_add]; exact Nat.mul_le_mul_right _ h1
 ·rw [show m.log2 + p + 1 = m.log2 + 1 + p by omega, Nat.pow_add]
  exact Nat.mul_lt_mul_of_pos_right h2 (two_pos p)
theorem cut_one (neg : Bool) (n : Nat) : Toward.even.cut neg n 0 = n := by
 unfold Toward.cut
 simp [Nat.mod_one]
theorem cut_even (neg : Bool) {n d : Nat} (h : d ≤ n.log2 + 2) : Toward.even.cut neg n d = n / 2 ^ d + (decide (2 ^ d < 2 * (n % 2 ^ d)) || (decide (2 ^ d = 2 * (n % 2 ^ d)) && n / 2 ^ d % 2 == 1)).toNat := by
 unfold Toward.cut
 have e : min d (n.log2 + 2) = d := by omega
 simp only [e, Nat.shiftLeft_eq, Nat.one_mul]
 rfl
theorem nearest_is (neg : Bool) {mag : Nat} (p : Nat) (hm : mag ≠ 0) : double.nearest neg mag ((p : Int) - 1074) = wd neg (min (rn (mag * 2 ^ p)) 9218868437227405312) := by
 unfold Format.nearest
 rw [if_neg hm]
 simp only [d_frac, d_least, d_binade, d_inf, d_word]
 have hl := log2_shift p hm
 generalize hL : mag.log2 = L at hl
 have key : (max ((p : Int) - 1074 + (L : Int) - 52) (-1074) - -1074).toNat * 4503599627370496 + Toward.even.cut neg (mag <<< ((p : Int) - 1074 - max ((p : Int) - 1074 + (L : Int) - 52) (-1074)).toNat) (max ((p : Int) - 1074 + (L : Int) - 52) (-1074) - ((p : Int) - 1074)).toNat = rn (mag * 2 ^ p) := by
  unfold rn dn up1
  have hk : kx (mag * 2 ^ p) = L + p - 52 := by unfold kx; rw [hl]
  rw [hk]
  by_cases h1 : 52 ≤ L + p
  ·have e0 : max ((p : Int) - 1074 + (L : Int) - 52) (-1074) = (p : Int) - 1074 + (L : Int) - 52 := by omega
   rw [e0]
   have e1 : ((p : Int) - 1074 + (L : Int) - 52 - -1074).toNat = L + p - 52 := by omega
   rw [e1]
   by_cases h2 : 52 ≤ L
   ·obtain ⟨d, hd⟩ : ∃ d, L = 52 + d := ⟨L - 52, by omega⟩
    have e2 : ((p : Int) - 1074 - ((p : Int) - 1074 + (L : Int) - 52)).toNat = 0 := by omega
    have e3 : ((p : Int) - 1074 + (L : Int) - 52 - ((p : Int) - 1074)).toNat = d := by omega
    have e4 : L + p - 52 = d + p := by omega
    rw [e2, e3, e4, Nat.shiftLeft_zero, cut_even neg (by omega)]
    have e5 : mag * 2 ^ p / 2 ^ (d + p) = mag / 2 ^ d := by rw [Nat.pow_add, Nat.mul_div_mul_right _ _ (two_pos p)]
    have e6 : mag * 2 ^ p % 2 ^ (d + p) = mag % 2 ^ d * 2 ^ p := by rw [Nat.pow_add, Nat.mul_mod_mul_right]
    rw [e5, e6]
    have hp := two_pos p
    have c1 : decide (2 ^ (d + p) < 2 * (mag % 2 ^ d * 2 ^ p)) = decide (2 ^ d < 2 * (mag % 2 ^ d)) := by
     rw [Nat.pow_add, ← Nat.mul_assoc]
     exact decide_eq_decide.2 ⟨fun h => Nat.lt_of_mul_lt_mul_right h, fun h => Nat.mul_lt_mul_of_pos_right h hp⟩
    have c2 : decide (2 ^ (d + p) = 2 * (mag % 2 ^ d * 2 ^ p)) = decide (2 ^ d = 2 * (mag % 2 ^ d)) := by
     rw [Nat.pow_add, ← Nat.mul_assoc]
     exact decide_eq_decide.2 ⟨fun h => Nat.eq_of_mul_eq_mul_right hp h, fun h => congrArg (· * 2 ^ p) h⟩
    rw [c1, c2, Nat.add_assoc]
   ·have e2 : ((p : Int) - 1074 - ((p : Int) - 1074 + (L : Int) - 52)).toNat = 52 - L := by omega
    have e3 : ((p : Int) - 1074 + (L : Int) - 52 - ((p : Int) - 1074)).toNat = 0 := by omega
    obtain ⟨k, hk2⟩ : ∃ k, p = (52 - L) + k := ⟨p - (52 - L), by omega⟩
    have e4 : L + p - 52 = k := by omega
    rw [e2, e3, e4, cut_one, Nat.shiftLeft_eq]
    have e5 : mag * 2 ^ p = mag * 2 ^ (52 - L) * 2 ^ k := by rw [hk2, Nat.pow_add, Nat.mul_assoc]
    have hp := two_pos k
    rw [e5, Nat.mul_div_cancel _ hp, Nat.mul_mod_left]
    have c1 : (decide (2 ^ k < 2 * 0) || decide (2 ^ k = 2 * 0) && mag * 2 ^ (52 - L) % 2 == 1) = false := by
     rw [decide_eq_false (by omega), decide_eq_false (by omega)]; rfl
    rw [c1, Bool.toNat_false, Nat.add_zero]
  ·have e0 : max ((p : Int) - 1074 + (L : Int) - 52) (-1074) = -1074 := by omega
   rw [e0]
   have e1 : ((-1074 : Int) - -1074).toNat = 0 := by omega
   have e2 : ((p : Int) - 1074 - -1074).toNat = p := by omega
   have e3 : ((-1074 : Int) - ((p : Int) - 1074)).toNat = 0 := by omega
   have e4 : L + p - 52 = 0 := by omega
   rw [e1, e2, e3, e4, cut_one, Nat.shiftLeft_eq, Nat.pow_zero, Nat.div_one, Nat.mod_one]
   have c1 : (decide (1 < 2 * 0) || decide (1 = 2 * 0) && mag * 2 ^ p % 2 == 1) = false := by
    rw [decide_eq_false (by omega), decide_eq_false (by omega)]; rfl
   rw [c1, Bool.toNat_false, Nat.add_zero]
 rw [key]
 rfl
theorem nearest_fine (neg : Bool) {r : Nat} (d : Nat) (hr : 0 < r) (hi : r ≤ 9218868437227405312) : double.nearest neg (mg r * 2 ^ d) (-1074 - (d : Int)) = wd neg r := by
 have hm := mg_pos hr
 have hm0 : mg r * 2 ^ d ≠ 0 := by have := Nat.mul_lt_mul_of_pos_right hm (two_pos d); omega
 unfold Format.nearest
 rw [if_neg hm0]
 simp only [d_frac, d_least, d_binade, d_inf, d_word]
 have hl := log2_shift (m := mg r) d (by omega)
 rw [hl]
 generalize hL : (mg r).log2 = L at hl
 have hk : kx (mg r) = L - 52 := by unfold kx; rw [hL]
 have hmod := mod_of_mg (t := mg r) rfl
 have hdn : dn (mg r) = r := dn_mg r
 rw [hk] at hmod
 unfold dn at hdn
 rw [hk] at hdn
 have e0 : (max (-1074 - (d : Int) + ((L + d : Nat) : Int) - 52) (-1074) - -1074).toNat = L - 52 := by omega
 have e1 : ((-1074 - (d : Int)) - max (-1074 - (d : Int) + ((L + d : Nat) : Int) - 52) (-1074)).toNat = 0 := by omega
 have e2 : (max (-1074 - (d : Int) + ((L + d : Nat) : Int) - 52) (-1074) - (-1074 - (d : Int))).toNat = L - 52 + d := by omega
 rw [e0, e1, e2, Nat.shiftLeft_zero, cut_even neg (by omega)]
 have e5 : mg r * 2 ^ d / 2 ^ (L - 52 + d) = mg r / 2 ^ (L - 52) := by rw [Nat.pow_add, Nat.mul_div_mul_right _ _ (two_pos d)]
 have e6 : mg r * 2 ^ d % 2 ^ (L - 52 + d) = 0 := by rw [Nat.pow_add, Nat.mul_mod_mul_right, hmod, Nat.zero_mul]
 have hp := two_pos (L - 52 + d)
 have c1 : (decide (2 ^ (L - 52 + d) < 2 * 0) || decide (2 ^ (L - 52 + d) = 2 * 0) && mg r / 2 ^ (L - 52) % 2 == 1) = false := by
  rw [decide_eq_false (by omega), decide_eq_false (by omega)]; rfl
 rw [e5, e6, c1, Bool.toNat_false, Nat.add_zero, hdn, Nat.min_eq_left hi]
 rfl
def sg (b : Nat) : Bool := b / 9223372036854775808 % 2 == 1
def rg (b : Nat) : Nat := b % 9223372036854775808
def Fin64 (b : Nat) : Prop := b < 18446744073709551616 ∧ rg b < 9218868437227405312
def sv (b : Nat) : Int := if sg b = true then -(mg (rg b) : Int) else mg (rg b)
theorem wd_parts {b : Nat} (h : b < 18446744073709551616) : wd (sg b) (rg b) = b := by
 unfold wd sg rg
 by_cases h1 : b < 9223372036854775808
 ·have e : (b / 9223372036854775808 % 2 == 1) = false := by
   have : b / 9223372036854775808 = 0 := by omega
   rw [this]; rfl
  rw [e, if_neg (by decide)]; omega
 ·have e : (b / 9223372036854775808 % 2 == 1) = true := by
   have : b / 9223372036854775808 = 1 := by omega
   rw [this]; rfl
  rw [e, if_pos rfl]; omega
theorem sg_wd (n : Bool) {r : Nat} (h : r < 9223372036854775808) : sg (wd n r) = n := by
 unfold sg wd
 cases n with
 | false =>
  have : r / 9223372036854775808 = 0 := by omega
  simp [this]
 | true =>
  have : (9223372036854775808 + r) / 9223372036854775808 = 1 := by omega
  simp [this]
theorem rg_wd (n : Bool) {r : Nat} (h : r < 9223372036854775808) : rg (wd n r) = r := by
 unfold rg wd
 cases n with
 | false => rw [if_neg (by decide)]; omega
 | true => rw [if_pos rfl]; omega
theorem wd_lt (n : Bool) {r : Nat} (h : r < 9223372036854775808) : wd n r < 18446744073709551616 := by
 unfold wd
 split <;> omega
theorem fin_wd (n : Bool) {r : Nat} (h : r < 9218868437227405312) : Fin64 (wd n r) := ⟨wd_lt n (by omega), by rw [rg_wd n (by omega)]; exact h⟩
theorem sv_wd (n : Bool) {r : Nat} (h : r < 9223372036854775808) : sv (wd n r) = if n = true then -(mg r : Int) else mg r := by
 unfold sv
 rw [sg_wd n h, rg_wd n h]
theorem read_fin {b : Nat} (h : Fin64 b) : ∃ m p : Nat, double.read b = .number (sg b) m ((p : Int) - 1074) ∧ m * 2 ^ p = mg (rg b) := by
 obtain ⟨_, h2⟩ := h
 unfold Format.read
 simp only [d_sgn, d_binade, d_inf, d_least]
 show ∃ m p : Nat, (if rg b < 4503599627370496 then Datum.number (sg b) (rg b) (-1074) else _) = _ ∧ _
 by_cases h1 : rg b < 4503599627370496
 ·rw [if_pos h1]
  exact ⟨rg b, 0, rfl, by rw [mg_small (by omega), Nat.pow_zero, Nat.mul_one]⟩
 ·rw [if_neg h1]
  have h3 : (b % 9223372036854775808 < 9218868437227405312) := h2
  rw [if_pos h3]
  refine ⟨4503599627370496 + rg b % 4503599627370496, rg b / 4503599627370496 - 1, ?_, ?_⟩
  ·have e : (-1074 : Int) + ((b % 9223372036854775808 / 4503599627370496 - 1 : Nat) : Int) = ((rg b / 4503599627370496 - 1 : Nat) : Int) - 1074 := by unfold rg; omega
   rw [e]; rfl
  ·unfold mg
   rw [if_neg h1]
theorem read_inf (s : Bool) : double.read (wd s 9218868437227405312) = .infinity s := by cases s <;> decide
def rw64 (z : Bool) (T : Int) : Nat := if T = 0 then wd z 0 else wd (decide (T < 0)) (min (rn T.natAbs) 9218868437227405312)
theorem signed_is (s : Bool) (m k : Nat) : signed s m k = if s = true then -((m * 2 ^ k : Nat) : Int) else ((m * 2 ^ k : Nat) : Int) := by
 unfold signed
 rw [Nat.shiftLeft_eq]
theorem signed_scale (s : Bool) (m j q : Nat) : signed s m j * (2 ^ q : Nat) = if s = true then -((m * 2 ^ (j + q) : Nat) : Int) else ((m * 2 ^ (j + q) : Nat) : Int) := by
 rw [signed_is, Nat.pow_add, ← Nat.mul_assoc]
 cases s <;> simp [Int.neg_mul]
theorem write_sum (s t : Bool) (m n p q : Nat) :
  ((Datum.number s m ((p : Int) - 1074)).sum (.number t n ((q : Int) - 1074))).map double.write =
   some (rw64 (s && t) ((if s = true then -((m * 2 ^ p : Nat) : Int) else ((m * 2 ^ p : Nat) : Int)) + (if t = true then -((n * 2 ^ q : Nat) : Int) else ((n * 2 ^ q : Nat) : Int)))) := by
 obtain ⟨u, hu⟩ : ∃ u, u = min p q := ⟨_, rfl⟩
 have eb : min ((p : Int) - 1074) ((q : Int) - 1074) = (u : Int) - 1074 := by omega
 have e1 : ((p : Int) - 1074 - ((u : Int) - 1074)).toNat = p - u := by omega
 have e2 : ((q : Int) - 1074 - ((u : Int) - 1074)).toNat = q - u := by omega
 simp only [Datum.sum, eb, e1, e2, Option.map_some, Format.write]
 have s1 := signed_scale s m (p - u) u
 have s2 := signed_scale t n (q - u) u
 rw [show p - u + u = p by omega] at s1
 rw [show q - u + u = q by omega] at s2
 rw [← s1, ← s2, ← Int.add_mul]
 generalize signed s m (p - u) + signed t n (q - u) = T
 have hp := two_pos u
 unfold rw64
 by_cases h0 : T = 0
 ·subst h0
  rw [if_pos rfl, Int.zero_mul, if_pos rfl]
  show some (double.nearest (s && t) 0 _) = _
  unfold Format.nearest
  rw [if_pos rfl, d_word]; rfl
 ·have h0' : T * ((2 ^ u : Nat) : Int) ≠ 0 := Int.mul_ne_zero h0 (by omega)
  rw [if_neg h0, if_neg h0', nearest_is _ u (by omega), Int.natAbs_mul, Int.natAbs_natCast]
  have hs : decide (T * ((2 ^ u : Nat) : Int) < 0) = decide (T < 0) := by
   refine decide_eq_decide.2 ⟨fun h => ?_, fun h => Int.mul_neg_of_neg_of_pos h (by omega)⟩
   refine Decidable.byContradiction fun hn => ?_
   have := Int.mul_nonneg (a := T) (b := ((2 ^ u : Nat) : Int)) (by omega) (by omega)
   omega
  rw [hs]
theorem add_fin {x y : Nat} (hx : Fin64 x) (hy : Fin64 y) : double.add x y = some (rw64 (sg x && sg y) (sv x + sv y)) := by
 obtain ⟨m, p, e1, f1⟩ := read_fin hx
 obtain ⟨n, q, e2, f2⟩ := read_fin hy
 unfold Format.add
 rw [e1, e2, write_sum, f1, f2]; rfl
theorem sub_fin {x y : Nat} (hx : Fin64 x) (hy : Fin64 y) : double.sub x y = some (rw64 (sg x && !sg y) (sv x - sv y)) := by
 obtain ⟨m, p, e1, f1⟩ := read_fin hx
 obtain ⟨n, q, e2, f2⟩ := read_fin hy
 unfold Format.sub
 rw [e1, e2]
 simp only [Datum.opposite]
 rw [write_sum, f1, f2]
 have e : (if (!sg y) = true then -((mg (rg y) : Nat) : Int) else (mg (rg y) : Nat)) = -sv y := by
  unfold sv
  cases sg y <;> simp
 rw [e, ← Int.sub_eq_add_neg]; rfl
def ky (b : Nat) : Int := if sg b = true then -(rg b : Int) else rg b
def NoNaN (b : Nat) : Prop := b < 18446744073709551616 ∧ rg b ≤ 9218868437227405312
theorem Fin64.noNaN {b : Nat} (h : Fin64 b) : NoNaN b := ⟨h.1, Nat.le_of_lt h.2⟩
theorem compare_int {a b c d : Int} (h1 : a < b ↔ c < d) (h2 : b < a ↔ d < c) : compare a b = compare c d := by
 have : ∀ x y : Int, compare x y = if x < y then .lt else if x = y then .eq else .gt := fun x y => rfl
 rw [this, this]
 by_cases h : a < b
 ·rw [if_pos h, if_pos (h1.1 h)]
 ·rw [if_neg h, if_neg (fun hh => h (h1.2 hh))]
  by_cases e : b < a
  ·have := h2.1 e
   rw [if_neg (by omega), if_neg (by omega)]
  ·have : ¬ d < c := fun hh => e (h2.2 hh)
   have : ¬ c < d := fun hh => h (h1.2 hh)
   rw [if_pos (by omega), if_pos (by omega)]
theorem sv_lt {x y : Nat} : sv x < sv y ↔ ky x < ky y := by
 unfold sv ky
 have h1 := @mg_lt_iff (rg x) (rg y)
 have h2 := @mg_lt_iff (rg y) (rg x)
 have h3 : 0 < mg (rg x) ↔ 0 < rg x := by have := @mg_lt_iff 0 (rg x); rw [mg_zero] at this; exact this
 have h4 : 0 < mg (rg y) ↔ 0 < rg y := by have := @mg_lt_iff 0 (rg y); rw [mg_zero] at this; exact this
 cases sg x <;> cases sg y <;> simp <;> omega
theorem order_fin {x y : Nat} (hx : Fin64 x) (hy : Fin64 y) : double.order x y = some (compare (ky x) (ky y)) := by
 obtain ⟨m, p, e1, f1⟩ := read_fin hx
 obtain ⟨n, q, e2, f2⟩ := read_fin hy
 unfold Format.order
 rw [e1, e2]
 obtain ⟨u, hu⟩ : ∃ u, u = min p q := ⟨_, rfl⟩
 have eb : min ((p : Int) - 1074) ((q : Int) - 1074) = (u : Int) - 1074 := by omega
 have g1 : ((p : Int) - 1074 - ((u : Int) - 1074)).toNat = p - u := by omega
 have g2 : ((q : Int) - 1074 - ((u : Int) - 1074)).toNat = q - u := by omega
 simp only [Datum.order, eb, g1, g2]
 have s1 := signed_scale (sg x) m (p - u) u
 have s2 := signed_scale (sg y) n (q - u) u
 rw [show p - u + u = p by omega, f1] at s1
 rw [show q - u + u = q by omega, f2] at s2
 have s1 : signed (sg x) m (p - u) * ((2 ^ u : Nat) : Int) = sv x := s1
 have s2 : signed (sg y) n (q - u) * ((2 ^ u : Nat) : Int) = sv y := s2
 have hp : (0 : Int) < ((2 ^ u : Nat) : Int) := by have := two_pos u; omega
 generalize signed (sg x) m (p - u) = A at *
 generalize signed (sg y) n (q - u) = B at *
 have lt : ∀ a b : Int, a < b ↔ a * ((2 ^ u : Nat) : Int) < b * ((2 ^ u : Nat) : Int) := fun a b =>
  ⟨fun h => Int.mul_lt_mul_of_pos_right h hp, fun h => Int.lt_of_mul_lt_mul_right h (Int.le_of_lt hp)⟩
 refine congrArg some (compare_int ?_ ?_)
 ·rw [lt, s1, s2]; exact sv_lt
 ·rw [lt, s1, s2]; exact sv_lt
theorem fin_or_inf {x : Nat} (h : NoNaN x) : Fin64 x ∨ ∃ s, x = wd s 9218868437227405312 := by
 by_cases h1 : rg x < 9218868437227405312
 ·exact .inl ⟨h.1, h1⟩
 ·refine .inr ⟨sg x, ?_⟩
  have e : rg x = 9218868437227405312 := by have := h.2; omega
  rw [← e, wd_parts h.1]
theorem ky_wd (n : Bool) {r : Nat} (h : r < 9223372036854775808) : ky (wd n r) = if n = true then -(r : Int) else r := by
 unfold ky
 rw [sg_wd n h, rg_wd n h]
theorem ky_fin {x : Nat} (h : Fin64 x) : -9218868437227405312 < ky x ∧ ky x < 9218868437227405312 := by
 have := h.2
 unfold ky
 split <;> omega
theorem order_is {x y : Nat} (hx : NoNaN x) (hy : NoNaN y) : double.order x y = some (compare (ky x) (ky y)) := by
 have cmp : ∀ x y : Int, compare x y = if x < y then .lt else if x = y then .eq else .gt := fun x y => rfl
 rcases fin_or_inf hx with fx | ⟨s, rfl⟩ <;> rcases fin_or_inf hy with fy | ⟨t, rfl⟩
 ·exact order_fin fx fy
 ·obtain ⟨m, p, e1, f1⟩ := read_fin fx
  have hk := ky_fin fx
  unfold Format.order
  rw [e1, read_inf]
  simp only [Datum.order]
  rw [ky_wd t (by decide), cmp]
  cases t with
  | false =>
   simp only [Bool.false_eq_true, if_false]
   rw [if_pos (by omega)]
  | true =>
   simp only [if_true]
   rw [if_neg (by omega), if_neg (by omega)]
 ·obtain ⟨m, p, e1, f1⟩ := read_fin fy
  have hk := ky_fin fy
  unfold Format.order
  rw [e1, read_inf]
  simp only [Datum.order]
  rw [ky_wd s (by decide), cmp]
  cases s with
  | false =>
   simp only [Bool.false_eq_true, if_false]
   rw [if_neg (by omega), if_neg (by omega)]
  | true =>
   simp only [if_true]
   rw [if_pos (by omega)]
 ·unfold Format.order
  rw [read_inf, read_inf]
  simp only [Datum.order]
  rw [ky_wd s (by decide), ky_wd t (by decide)]
  cases s <;> cases t <;> decide
end Go.Flo

/-
 The error of a sum of floats: two sums and four differences, each rounded to the nearest, tell it exactly.
-/
namespace Go.Flo
def R (z : Int) : Int := if z < 0 then -(mg (rn z.natAbs) : Int) else mg (rn z.natAbs)
theorem R_zero : R 0 = 0 := by decide
theorem R_abs (z : Int) : (R z).natAbs = mg (rn z.natAbs) := by
 unfold R
 split <;> omega
theorem sv_R (z : Bool) {T : Int} (h : rn T.natAbs < 9218868437227405312) : Fin64 (rw64 z T) ∧ sv (rw64 z T) = R T := by
 unfold rw64
 by_cases h0 : T = 0
 ·subst h0
  rw [if_pos rfl]
  refine ⟨fin_wd z (by decide), ?_⟩
  rw [sv_wd z (by decide), R_zero, mg_zero]
  cases z <;> rfl
 ·rw [if_neg h0, Nat.min_eq_left (Nat.le_of_lt h)]
  refine ⟨fin_wd _ h, ?_⟩
  rw [sv_wd _ (by omega)]
  unfold R
  by_cases hn : T < 0
  ·rw [if_pos hn, if_pos (by simpa using hn)]
  ·rw [if_neg hn, if_neg (by simpa using hn)]
theorem R_exact {z : Int} {m : Nat} (hd : ((2 ^ m : Nat) : Int) ∣ z) (hz : z.natAbs ≤ 9007199254740992 * 2 ^ m) : R z = z := by
 obtain ⟨a, rfl⟩ := hd
 have e : (((2 ^ m : Nat) : Int) * a).natAbs = a.natAbs * 2 ^ m := by rw [Int.natAbs_mul, Int.natAbs_natCast, Nat.mul_comm]
 have h1 : a.natAbs ≤ 9007199254740992 := by
  rw [e] at hz
  exact Nat.le_of_mul_le_mul_right hz (two_pos m)
 have h2 := rn_exact h1 e
 unfold R
 rw [h2]
 split <;> omega
theorem rn_least (t r : Nat) : (mg (rn t) : Int) - t ≤ (mg r - t : Int).natAbs ∧ (t : Int) - mg (rn t) ≤ (mg r - t : Int).natAbs := by
 have h1 := dn_le t
 have h2 := dn_lt t
 have hn := rn_near t
 have hs : mg (dn t + 1) = mg (dn t) + 2 ^ kx t := by rw [mg_dn_succ, mg_dn, Nat.add_mul, Nat.one_mul]
 have hc : mg r ≤ mg (dn t) ∨ mg (dn t + 1) ≤ mg r := by
  by_cases h : r ≤ dn t
  ·exact .inl (mg_le h)
  ·exact .inr (mg_le (by omega))
 rcases rn_cases t with h | ⟨h, _⟩
 ·rw [h] at hn ⊢
  omega
 ·rw [h] at hn ⊢
  omega
theorem R_least (z : Int) (f : Int) (hf : R f = f) : (R z - z).natAbs ≤ (f - z).natAbs := by
 have hfa := R_abs f
 rw [hf] at hfa
 have h1 := rn_least z.natAbs (rn f.natAbs)
 rw [← hfa] at h1
 have hz := R_abs z
 have h2 : (z < 0 → R z = -((mg (rn z.natAbs) : Nat) : Int)) ∧ (¬ z < 0 → R z = ((mg (rn z.natAbs) : Nat) : Int)) := by
  unfold R
  exact ⟨fun h => if_pos h, fun h => if_neg h⟩
 generalize mg (rn z.natAbs) = G at *
 by_cases h : z < 0
 ·rw [h2.1 h]; omega
 ·rw [h2.2 h]; omega
theorem R_near (z : Int) : 2 * (R z - z).natAbs ≤ 2 ^ kx z.natAbs := by
 have hn := rn_near z.natAbs
 have h2 : (z < 0 → R z = -((mg (rn z.natAbs) : Nat) : Int)) ∧ (¬ z < 0 → R z = ((mg (rn z.natAbs) : Nat) : Int)) := by
  unfold R
  exact ⟨fun h => if_pos h, fun h => if_neg h⟩
 generalize mg (rn z.natAbs) = G at *
 by_cases h : z < 0
 ·rw [h2.1 h]; omega
 ·rw [h2.2 h]; omega
theorem R_div (z : Int) : ((2 ^ kx z.natAbs : Nat) : Int) ∣ R z ∧ (R z).natAbs ≤ 9007199254740992 * 2 ^ kx z.natAbs := by
 obtain ⟨m, h1, h2⟩ := rn_div z.natAbs
 have h3 : (R z).natAbs ≤ 9007199254740992 * 2 ^ kx z.natAbs := by rw [R_abs, h1]; exact Nat.mul_le_mul_right _ h2
 refine ⟨?_, h3⟩
 unfold R
 rw [h1]
 split
 ·exact ⟨-(m : Int), by rw [Int.natCast_mul, Int.mul_neg, Int.mul_comm]⟩
 ·exact ⟨m, by rw [Int.natCast_mul, Int.mul_comm]⟩
theorem R_R (z : Int) : R (R z) = R z := R_exact (R_div z).1 (R_div z).2
theorem R_sizes (z : Int) : z.natAbs < 9007199254740992 * 2 ^ kx z.natAbs ∧ (0 < kx z.natAbs → 4503599627370496 * 2 ^ kx z.natAbs ≤ z.natAbs ∧ 4503599627370496 * 2 ^ kx z.natAbs ≤ (R z).natAbs) := by
 rcases kx_cases z.natAbs with ⟨h1, h2⟩ | ⟨h1, h2, h3⟩
 ·rw [h1, Nat.pow_zero]; exact ⟨by omega, fun h => absurd h (by omega)⟩
 ·refine ⟨h3, fun _ => ⟨h2, ?_⟩⟩
  obtain ⟨r, hr⟩ := mg_of (m := 4503599627370496) (k := kx z.natAbs) (by decide)
  rw [R_abs, ← hr]
  exact mg_le (rn_mono_mg (by rw [hr]; exact h2))
def Pl (x : Int) (p : Nat) : Prop := ((2 ^ p : Nat) : Int) ∣ x ∧ x.natAbs < 9007199254740992 * 2 ^ p ∧ (p = 0 ∨ 4503599627370496 * 2 ^ p ≤ x.natAbs)
theorem Pl.exact {x : Int} {p : Nat} (h : Pl x p) : R x = x := R_exact h.1 (Nat.le_of_lt h.2.1)
theorem pl_of {x : Int} (h : R x = x) : Pl x (kx x.natAbs) := by
 obtain ⟨h1, h2⟩ := R_div x
 obtain ⟨h3, h4⟩ := R_sizes x
 rw [h] at h1
 refine ⟨h1, h3, ?_⟩
 by_cases h0 : kx x.natAbs = 0
 ·exact .inl h0
 ·exact .inr (h4 (by omega)).1
theorem dvd_le {p q : Nat} {x : Int} (h : p ≤ q) (hd : ((2 ^ q : Nat) : Int) ∣ x) : ((2 ^ p : Nat) : Int) ∣ x :=
 Int.dvd_trans (Int.natCast_dvd_natCast.2 (Nat.pow_dvd_pow 2 h)) hd
theorem pow_mono {p q : Nat} (h : p ≤ q) : 2 ^ p ≤ 2 ^ q := Nat.pow_le_pow_right (by omega) h
theorem pow_half {p q : Nat} (h : p < q) : 2 * 2 ^ p ≤ 2 ^ q := by
 have := pow_mono (p := p + 1) (q := q) h
 rw [Nat.pow_succ] at this; omega
theorem err_float {x y : Int} {p q : Nat} (hx : Pl x p) (hy : Pl y q) : R (x + y - R (x + y)) = x + y - R (x + y) := by
 have key : ∀ {x y : Int} {p q : Nat}, Pl x p → Pl y q → p ≤ q → R (x + y - R (x + y)) = x + y - R (x + y) := by
  intro x y p q hx hy hpq
  have hz : ((2 ^ p : Nat) : Int) ∣ x + y := Int.dvd_add hx.1 (dvd_le hpq hy.1)
  obtain ⟨h1, h2⟩ := R_div (x + y)
  by_cases hk : kx (x + y).natAbs ≤ p
  ·have hs := (R_sizes (x + y)).1
   have := pow_mono hk
   have e : R (x + y) = x + y := R_exact hz (by omega)
   rw [e, Int.sub_self]; exact R_zero
  ·have hd : ((2 ^ p : Nat) : Int) ∣ x + y - R (x + y) := Int.dvd_sub hz (dvd_le (by omega) h1)
   have hl := R_least (x + y) y hy.exact
   have := hx.2.1
   exact R_exact hd (by omega)
 by_cases h : p ≤ q
 ·exact key hx hy h
 ·have := key hy hx (by omega)
  rw [Int.add_comm y x] at this
  exact this
theorem fast_exact {x y : Int} {p q : Nat} (hx : Pl x p) (hy : Pl y q) (hle : y.natAbs ≤ x.natAbs) : R (R (x + y) - x) = R (x + y) - x := by
 have hqp : q ≤ p := by
  rcases hy.2.2 with h | h
  ·omega
  ·refine Decidable.byContradiction fun hn => ?_
   have := pow_half (p := p) (q := q) (by omega)
   have := hx.2.1
   omega
 have hz : ((2 ^ q : Nat) : Int) ∣ x + y := Int.dvd_add (dvd_le hqp hx.1) hy.1
 obtain ⟨h1, h2⟩ := R_div (x + y)
 have hs := (R_sizes (x + y)).1
 by_cases hk : kx (x + y).natAbs ≤ q
 ·have := pow_mono hk
  have e : R (x + y) = x + y := R_exact hz (by omega)
  rw [e]
  have e2 : x + y - x = y := by omega
  rw [e2]; exact hy.exact
 ·have hn := R_near (x + y)
  have hkp : kx (x + y).natAbs ≤ p + 1 := by
   refine Decidable.byContradiction fun hn => ?_
   have h3 := pow_half (p := p + 1) (q := kx (x + y).natAbs) (by omega)
   have h4 : 2 ^ (p + 1) = 2 * 2 ^ p := by rw [Nat.pow_succ]; omega
   have h5 := ((R_sizes (x + y)).2 (by omega)).1
   have := hx.2.1
   omega
  have h6 := pow_half (p := q) (q := kx (x + y).natAbs) (by omega)
  have hyl := hy.2.1
  generalize kx (x + y).natAbs = k at *
  by_cases hc : k ≤ p
  ·have hd : ((2 ^ k : Nat) : Int) ∣ R (x + y) - x := Int.dvd_sub h1 (dvd_le hc hx.1)
   exact R_exact hd (by omega)
  ·have ek : k = p + 1 := by omega
   subst ek
   have h4 : 2 ^ (p + 1) = 2 * 2 ^ p := by rw [Nat.pow_succ]; omega
   have hd : ((2 ^ p : Nat) : Int) ∣ R (x + y) - x := Int.dvd_sub (dvd_le (by omega) h1) hx.1
   refine R_exact hd ?_
   obtain ⟨a, ha⟩ := hd
   have hpp := two_pos p
   rw [h4] at *
   have hb : (R (x + y) - x).natAbs < 9007199254740993 * 2 ^ p := by omega
   rw [ha, Int.natAbs_mul, Int.natAbs_natCast, Nat.mul_comm] at hb ⊢
   have := Nat.lt_of_mul_lt_mul_right hb
   exact Nat.mul_le_mul_right _ (by omega)
set_option maxHeartbeats 4000000 in
theorem two_sum {x y s part c d e : Int} {p q : Nat} (hx : Pl x p) (hy : Pl y q) (hs : s = R (x + y)) (hp : part = R (s - x)) (hc : c = R (s - part)) (hd : d = R (x - c)) (he : e = R (y - part)) :
  R (d + e) = x + y - s := by
 have hE := err_float hx hy
 rw [← hs] at hE
 have caseA : R (s - x) = s - x → R (d + e) = x + y - s := fun h => by
  rw [h] at hp
  have e1 : s - part = x := by omega
  rw [e1, hx.exact] at hc
  rw [hc, Int.sub_self, R_zero] at hd
  have e2 : y - part = x + y - s := by omega
  rw [e2, hE] at he
  rw [hd, he, Int.zero_add]; exact hE
 by_cases hle : y.natAbs ≤ x.natAbs
 ·exact caseA (by rw [hs]; exact fast_exact hx hy hle)
 have hpq : p ≤ q := by
  rcases hx.2.2 with h | h
  ·omega
  ·refine Decidable.byContradiction fun hn => ?_
   have := pow_half (p := q) (q := p) (by omega)
   have := hy.2.1
   omega
 have hxl := hx.2.1
 have hyl := hy.2.1
 have hz : ((2 ^ p : Nat) : Int) ∣ x + y := Int.dvd_add hx.1 (dvd_le hpq hy.1)
 obtain ⟨s1, s2⟩ := R_div (x + y)
 obtain ⟨s3, s4⟩ := R_sizes (x + y)
 have s5 := R_near (x + y)
 rw [← hs] at s1 s2 s4 s5
 by_cases hk : kx (x + y).natAbs ≤ p
 ·have := pow_mono hk
  have e1 : R (x + y) = x + y := R_exact hz (by omega)
  exact caseA (by
   rw [hs, e1]
   have e2 : x + y - x = y := by omega
   rw [e2]; exact hy.exact)
 have hkq : kx (x + y).natAbs ≤ q + 1 := by
  refine Decidable.byContradiction fun hn => ?_
  have h3 := pow_half (p := q + 1) (q := kx (x + y).natAbs) (by omega)
  have h4 : 2 ^ (q + 1) = 2 * 2 ^ q := by rw [Nat.pow_succ]; omega
  have h5 := (s4 (by omega)).1
  omega
 have s4 := (s4 (by omega)).2
 generalize kx (x + y).natAbs = k at *
 have hw : ((2 ^ p : Nat) : Int) ∣ s - x := Int.dvd_sub (dvd_le (by omega) s1) hx.1
 obtain ⟨t1, t2⟩ := R_div (s - x)
 obtain ⟨t3, t4⟩ := R_sizes (s - x)
 have t5 := R_near (s - x)
 have t6 := R_least (s - x) s (by rw [hs]; exact R_R _)
 rw [← hp] at t1 t2 t4 t5 t6
 by_cases hk' : kx (s - x).natAbs ≤ p
 ·have := pow_mono hk'
  exact caseA (R_exact hw (by omega))
 have t4 := (t4 (by omega)).1
 generalize hkk : kx (s - x).natAbs = k' at *
 have p1 := pow_half (p := p) (q := k) (by omega)
 have p2 := pow_half (p := p) (q := k') (by omega)
 have hpp := two_pos p
 -- the places of the two
 have kk1 : k' ≤ k + 1 := by
  refine Decidable.byContradiction fun hn => ?_
  have h3 := pow_half (p := k + 1) (q := k') (by omega)
  have h4 : 2 ^ (k + 1) = 2 * 2 ^ k := by rw [Nat.pow_succ]; omega
  omega
 have kk2 : k ≤ k' + 1 := by
  refine Decidable.byContradiction fun hn => ?_
  have h3 := pow_half (p := k' + 1) (q := k) (by omega)
  have h4 : 2 ^ (k' + 1) = 2 * 2 ^ k' := by rw [Nat.pow_succ]; omega
  omega
 have b1 : 2 ^ k' ≤ 2 * 2 ^ k := by have := pow_mono kk1; rw [Nat.pow_succ] at this; omega
 have b2 : 2 ^ k ≤ 2 * 2 ^ k' := by have := pow_mono kk2; rw [Nat.pow_succ] at this; omega
 have b3 : 2 ^ k ≤ 2 * 2 ^ q := by have := pow_mono hkq; rw [Nat.pow_succ] at this; omega
 -- the second difference is exact
 have hc2 : c = s - part := by
  rw [hc]
  by_cases h : k ≤ k'
  ·exact R_exact (m := k) (Int.dvd_sub s1 (dvd_le h t1)) (by omega)
  ·exact R_exact (m := k') (Int.dvd_sub (dvd_le (by omega) s1) t1) (by omega)
 -- the third
 have hd2 : d = x - c := by
  rw [hd, hc2]
  have e1 : x - (s - part) = part - (s - x) := by omega
  rw [e1]
  exact R_exact (m := p) (Int.dvd_sub (dvd_le (by omega) t1) hw) (by omega)
 -- the fourth
 have he2 : e = y - part := by
  rw [he]
  by_cases h : q ≤ k'
  ·have := pow_mono h
   exact R_exact (m := q) (Int.dvd_sub hy.1 (dvd_le h t1)) (by omega)
  ·have := pow_mono (p := k') (q := q) (by omega)
   exact R_exact (m := k') (Int.dvd_sub (dvd_le (by omega) hy.1) t1) (by omega)
 have e3 : d + e = x + y - s := by omega
 rw [e3]; exact hE
end Go.Flo

/-
 The floats next to a fraction, from below and from above, as rungs with signs.
-/
namespace Go.Flo
def sc : Nat := 2 ^ 1074
theorem sc_pos : 0 < sc := by unfold sc; exact two_pos 1074
def loR (n d : Nat) : Nat := min (dn (n * sc / d)) 9218868437227405311
def upR (n d : Nat) : Nat := if mg (loR n d) * d = n * sc then loR n d else loR n d + 1
theorem loR_le {n d : Nat} : mg (loR n d) * d ≤ n * sc := by
 refine Nat.le_trans (Nat.mul_le_mul_right d (mg_le (s := dn (n * sc / d)) (Nat.min_le_left _ _))) ?_
 exact Nat.le_trans (Nat.mul_le_mul_right d (dn_le _)) (Nat.div_mul_le_self _ _)
theorem loR_bd {n d : Nat} : loR n d ≤ 9218868437227405311 := Nat.min_le_right _ _
theorem loR_lt {n d : Nat} (hd : 0 < d) (h : loR n d < 9218868437227405311) : n * sc < mg (loR n d + 1) * d := by
 have e : loR n d = dn (n * sc / d) := by unfold loR at h ⊢; omega
 rw [e]
 exact (Nat.div_lt_iff_lt_mul hd).1 (dn_lt _)
theorem upR_bd {n d : Nat} : upR n d ≤ 9218868437227405312 := by
 have := @loR_bd n d
 unfold upR
 split <;> omega
theorem upR_ge {n d : Nat} (hd : 0 < d) (h : upR n d < 9218868437227405312) : n * sc ≤ mg (upR n d) * d := by
 unfold upR at h ⊢
 by_cases e : mg (loR n d) * d = n * sc
 ·rw [if_pos e] at h ⊢; omega
 ·rw [if_neg e] at h ⊢
  exact Nat.le_of_lt (loR_lt hd (by omega))
theorem upR_pos {n d : Nat} (hn : 0 < n) : 0 < upR n d := by
 unfold upR
 by_cases e : mg (loR n d) * d = n * sc
 ·rw [if_pos e]
  refine Nat.pos_of_ne_zero fun h0 => ?_
  rw [h0, mg_zero, Nat.zero_mul] at e
  have := Nat.mul_pos hn sc_pos
  omega
 ·rw [if_neg e]; omega
theorem upR_lt {n d : Nat} (hd : 0 < d) (hn : 0 < n) : mg (upR n d - 1) * d < n * sc := by
 have h0 := @upR_pos n d hn
 have h1 := @loR_le n d
 unfold upR at h0 ⊢
 by_cases e : mg (loR n d) * d = n * sc
 ·rw [if_pos e] at h0 ⊢
  rw [← e]
  exact Nat.mul_lt_mul_of_pos_right (mg_lt (by omega)) hd
 ·rw [if_neg e, Nat.add_sub_cancel]
  omega
theorem upR_cases {n d : Nat} : upR n d = loR n d ∨ upR n d = loR n d + 1 := by
 unfold upR
 split
 ·exact .inl rfl
 ·exact .inr rfl
theorem lo_zero (d : Nat) : loR 0 d = 0 := by
 unfold loR
 rw [Nat.zero_mul, Nat.zero_div, dn_zero]; rfl
theorem up_zero (d : Nat) : upR 0 d = 0 := by
 unfold upR
 rw [lo_zero, mg_zero, Nat.zero_mul, Nat.zero_mul, if_pos rfl]
def vz (k : Int) : Int := if k < 0 then -(mg k.natAbs : Int) else mg k.natAbs
theorem vz_zero : vz 0 = 0 := by decide
theorem vz_neg (k : Int) : vz (-k) = -vz k := by
 unfold vz
 rw [Int.natAbs_neg]
 by_cases h0 : k = 0
 ·subst h0; decide
 ·by_cases h : k < 0
  ·rw [if_neg (by omega), if_pos h]; omega
  ·rw [if_pos (by omega), if_neg h]
theorem vz_nat (n : Nat) : vz (n : Int) = mg n := by
 unfold vz
 rw [if_neg (by omega), Int.natAbs_natCast]
theorem vz_lt {j k : Int} : vz j < vz k ↔ j < k := by
 unfold vz
 have h1 := @mg_lt_iff j.natAbs k.natAbs
 have h2 := @mg_lt_iff k.natAbs j.natAbs
 have h3 : 0 < mg j.natAbs ↔ 0 < j.natAbs := by have := @mg_lt_iff 0 j.natAbs; rw [mg_zero] at this; exact this
 have h4 : 0 < mg k.natAbs ↔ 0 < k.natAbs := by have := @mg_lt_iff 0 k.natAbs; rw [mg_zero] at this; exact this
 split <;> split <;> omega
theorem vz_le {j k : Int} : vz j ≤ vz k ↔ j ≤ k := by
 have := @vz_lt k j
 omega
theorem vz_ky (b : Nat) : vz (ky b) = sv b := by
 unfold vz ky sv
 by_cases h : sg b = true
 ·rw [if_pos h, if_pos h, Int.natAbs_neg, Int.natAbs_natCast]
  by_cases h0 : rg b = 0
  ·rw [h0, mg_zero]; decide
  ·rw [if_pos (by omega)]
 ·rw [if_neg h, if_neg h, if_neg (by omega), Int.natAbs_natCast]
def wk (k : Int) : Nat := wd (decide (k < 0)) k.natAbs
theorem ky_wk {k : Int} (h : k.natAbs < 9223372036854775808) : ky (wk k) = k := by
 unfold wk
 rw [ky_wd _ h]
 by_cases h0 : k < 0
 ·rw [if_pos (by simpa using h0)]; omega
 ·rw [if_neg (by simpa using h0)]; omega
theorem fin_wk {k : Int} (h : k.natAbs < 9218868437227405312) : Fin64 (wk k) := fin_wd _ h
theorem noNaN_wk {k : Int} (h : k.natAbs ≤ 9218868437227405312) : NoNaN (wk k) := ⟨wd_lt _ (by omega), by unfold wk; rw [rg_wd _ (by omega)]; exact h⟩
theorem sv_wk {k : Int} (h : k.natAbs < 9223372036854775808) : sv (wk k) = vz k := by rw [← vz_ky, ky_wk h]
def kLo (q : Rat) : Int := if q.num < 0 then -(upR q.num.natAbs q.den : Int) else loR q.num.natAbs q.den
def kHi (q : Rat) : Int := if q.num < 0 then -(loR q.num.natAbs q.den : Int) else upR q.num.natAbs q.den
theorem k_bd (q : Rat) : -9218868437227405312 ≤ kLo q ∧ kLo q < 9218868437227405312 ∧ -9218868437227405312 < kHi q ∧ kHi q ≤ 9218868437227405312 ∧ kLo q ≤ kHi q ∧ kHi q ≤ kLo q + 1 := by
 have h1 := @loR_bd q.num.natAbs q.den
 have h2 := @upR_bd q.num.natAbs q.den
 have h3 := @upR_cases q.num.natAbs q.den
 unfold kLo kHi
 split <;> omega
theorem kLo_neg (q : Rat) : kLo (-q) = -kHi q := by
 have h1 : (-q).num = -q.num := rfl
 have h2 : (-q).den = q.den := rfl
 unfold kLo kHi
 rw [h1, h2, Int.natAbs_neg]
 by_cases h0 : q.num = 0
 ·rw [h0]
  show (if (0:Int) < 0 then _ else _) = _
  rw [if_neg (by decide), if_neg (by decide)]
  show ((loR 0 _ : Nat) : Int) = -((upR 0 _ : Nat) : Int)
  rw [lo_zero, up_zero]; rfl
 ·by_cases h : q.num < 0
  ·rw [if_neg (by omega), if_pos h]; omega
  ·rw [if_pos (by omega), if_neg h]
theorem kHi_neg (q : Rat) : kHi (-q) = -kLo q := by
 have := kLo_neg (-q)
 rw [Rat.neg_neg] at this
 omega
theorem lo_le {q : Rat} (h : -9218868437227405312 < kLo q) : vz (kLo q) * q.den ≤ q.num * sc := by
 unfold kLo at h ⊢
 by_cases hn : q.num < 0
 ·rw [if_pos hn] at h ⊢
  have h1 := upR_ge (n := q.num.natAbs) q.den_pos (by omega)
  rw [vz_neg, vz_nat]
  have h2 : q.num = -(q.num.natAbs : Int) := by omega
  rw [h2, Int.neg_mul, Int.neg_mul, Int.natAbs_neg, Int.natAbs_natCast]
  have h3 : ((q.num.natAbs * sc : Nat) : Int) ≤ ((mg (upR q.num.natAbs q.den) * q.den : Nat) : Int) := by exact_mod_cast h1
  rw [Int.natCast_mul, Int.natCast_mul] at h3
  omega
 ·rw [if_neg hn, vz_nat]
  have h1 := @loR_le q.num.natAbs q.den
  have h2 : q.num = (q.num.natAbs : Int) := by omega
  rw [h2, Int.natAbs_natCast]
  exact_mod_cast h1
theorem lo_lt {q : Rat} (h : kLo q < 9218868437227405311) : q.num * sc < vz (kLo q + 1) * q.den := by
 unfold kLo at h ⊢
 by_cases hn : q.num < 0
 ·rw [if_pos hn] at h ⊢
  have hp := @upR_pos q.num.natAbs q.den (by omega)
  have h1 := upR_lt (n := q.num.natAbs) q.den_pos (by omega)
  have e : -((upR q.num.natAbs q.den : Nat) : Int) + 1 = -((upR q.num.natAbs q.den - 1 : Nat) : Int) := by omega
  rw [e, vz_neg, vz_nat]
  have h2 : q.num = -(q.num.natAbs : Int) := by omega
  rw [h2, Int.neg_mul, Int.neg_mul, Int.natAbs_neg, Int.natAbs_natCast]
  have h3 : ((mg (upR q.num.natAbs q.den - 1) * q.den : Nat) : Int) < ((q.num.natAbs * sc : Nat) : Int) := by exact_mod_cast h1
  rw [Int.natCast_mul, Int.natCast_mul] at h3
  omega
 ·rw [if_neg hn] at h ⊢
  have h1 := loR_lt (n := q.num.natAbs) q.den_pos (by omega)
  have e : ((loR q.num.natAbs q.den : Nat) : Int) + 1 = ((loR q.num.natAbs q.den + 1 : Nat) : Int) := by omega
  rw [e, vz_nat]
  have h2 : q.num = (q.num.natAbs : Int) := by omega
  rw [h2, Int.natAbs_natCast]
  exact_mod_cast h1
theorem hi_ge {q : Rat} (h : kHi q < 9218868437227405312) : q.num * sc ≤ vz (kHi q) * q.den := by
 have h1 := lo_le (q := -q) (by rw [kLo_neg]; omega)
 have e1 : (-q).num = -q.num := rfl
 have e2 : (-q).den = q.den := rfl
 rw [kLo_neg, vz_neg, e1, e2, Int.neg_mul, Int.neg_mul] at h1
 omega
theorem hi_lt {q : Rat} (h : -9218868437227405311 < kHi q) : vz (kHi q - 1) * q.den < q.num * sc := by
 have h1 := lo_lt (q := -q) (by rw [kLo_neg]; omega)
 have e1 : (-q).num = -q.num := rfl
 have e2 : (-q).den = q.den := rfl
 have e3 : -kHi q + 1 = -(kHi q - 1) := by omega
 rw [kLo_neg, e3, vz_neg, e1, e2, Int.neg_mul, Int.neg_mul] at h1
 omega
theorem kLo_is {q : Rat} {k : Int} (h1 : vz k * q.den ≤ q.num * sc) (h2 : q.num * sc < vz (k + 1) * q.den) (hk : -9218868437227405312 < k ∧ k < 9218868437227405311) : kLo q = k := by
 have hd : (0 : Int) < q.den := by have := q.den_pos; omega
 obtain ⟨b1, b2, _⟩ := k_bd q
 have c1 : k ≤ kLo q := by
  refine Decidable.byContradiction fun hn => ?_
  have h3 := lo_lt (q := q) (by omega)
  have h4 := (vz_le (j := kLo q + 1) (k := k)).2 (by omega)
  have := Int.mul_le_mul_of_nonneg_right h4 (Int.le_of_lt hd)
  omega
 have c2 : kLo q ≤ k := by
  refine Decidable.byContradiction fun hn => ?_
  have h3 := lo_le (q := q) (by omega)
  have h4 := (vz_le (j := k + 1) (k := kLo q)).2 (by omega)
  have := Int.mul_le_mul_of_nonneg_right h4 (Int.le_of_lt hd)
  omega
 omega
theorem k_exact {q : Rat} {k : Int} (h : q.num * sc = vz k * q.den) (hk : -9218868437227405312 < k ∧ k < 9218868437227405312) : kLo q = k ∧ kHi q = k := by
 have hd : (0 : Int) < q.den := by have := q.den_pos; omega
 have key : ∀ {q : Rat} {k : Int}, q.num * sc = vz k * q.den → (0 : Int) < q.den → (-9218868437227405312 < k ∧ k < 9218868437227405312) → kLo q = k := fun {q k} h hd hk => by
  obtain ⟨b1, b2, _⟩ := k_bd q
  have c1 : k ≤ kLo q := by
   refine Decidable.byContradiction fun hn => ?_
   have h3 := lo_lt (q := q) (by omega)
   have h4 := (vz_le (j := kLo q + 1) (k := k)).2 (by omega)
   have := Int.mul_le_mul_of_nonneg_right h4 (Int.le_of_lt hd)
   omega
  have c2 : kLo q ≤ k := by
   refine Decidable.byContradiction fun hn => ?_
   have h3 := lo_le (q := q) (by omega)
   have h4 := (vz_lt (j := k) (k := kLo q)).2 (by omega)
   have := Int.mul_lt_mul_of_pos_right h4 hd
   omega
  omega
 refine ⟨key h hd hk, ?_⟩
 have h2 := key (q := -q) (k := -k) (by
  have e1 : (-q).num = -q.num := rfl
  have e2 : (-q).den = q.den := rfl
  rw [e1, e2, vz_neg, Int.neg_mul, Int.neg_mul, h]) hd (by omega)
 rw [kLo_neg] at h2
 omega
theorem cross {p q : Rat} {v : Int} (h1 : p.num * sc ≤ v * p.den) (h2 : v * q.den ≤ q.num * sc) : p.num * q.den ≤ q.num * p.den := by
 have hp : (0 : Int) < p.den := by have := p.den_pos; omega
 have hq : (0 : Int) < q.den := by have := q.den_pos; omega
 have hs : (0 : Int) < sc := by have := sc_pos; omega
 have a := Int.mul_le_mul_of_nonneg_right h1 (Int.le_of_lt hq)
 have b := Int.mul_le_mul_of_nonneg_right h2 (Int.le_of_lt hp)
 have e1 : p.num * sc * q.den = p.num * q.den * sc := by rw [Int.mul_assoc, Int.mul_comm (sc : Int), ← Int.mul_assoc]
 have e2 : v * p.den * q.den = v * q.den * p.den := by rw [Int.mul_assoc, Int.mul_comm (p.den : Int), ← Int.mul_assoc]
 have e3 : q.num * sc * p.den = q.num * p.den * sc := by rw [Int.mul_assoc, Int.mul_comm (sc : Int), ← Int.mul_assoc]
 rw [e1, e2] at a
 rw [e3] at b
 exact Int.le_of_mul_le_mul_right (Int.le_trans a b) hs
theorem cross_lt {p q : Rat} {v w : Int} (h1 : p.num * sc ≤ v * p.den) (hvw : v < w) (h2 : w * q.den ≤ q.num * sc) : p.num * q.den < q.num * p.den := by
 have hp : (0 : Int) < p.den := by have := p.den_pos; omega
 have hq : (0 : Int) < q.den := by have := q.den_pos; omega
 have hs : (0 : Int) < sc := by have := sc_pos; omega
 have a := Int.mul_le_mul_of_nonneg_right h1 (Int.le_of_lt hq)
 have b := Int.mul_le_mul_of_nonneg_right h2 (Int.le_of_lt hp)
 have e1 : p.num * sc * q.den = p.num * q.den * sc := by rw [Int.mul_assoc, Int.mul_comm (sc : Int), ← Int.mul_assoc]
 have e2 : v * p.den * q.den = v * (p.den * q.den) := by rw [Int.mul_assoc]
 have e4 : w * q.den * p.den = w * (p.den * q.den) := by rw [Int.mul_assoc, Int.mul_comm (q.den : Int)]
 have e3 : q.num * sc * p.den = q.num * p.den * sc := by rw [Int.mul_assoc, Int.mul_comm (sc : Int), ← Int.mul_assoc]
 have c := Int.mul_lt_mul_of_pos_right hvw (Int.mul_pos hp hq)
 rw [e1, e2] at a
 rw [e3, e4] at b
 exact Int.lt_of_mul_lt_mul_right (Int.lt_of_le_of_lt a (Int.lt_of_lt_of_le c b)) (Int.le_of_lt hs)
theorem kLo_mono {p q : Rat} (h : p.num * q.den ≤ q.num * p.den) : kLo p ≤ kLo q := by
 refine Decidable.byContradiction fun hn => ?_
 obtain ⟨b1, b2, _⟩ := k_bd p
 obtain ⟨c1, c2, _⟩ := k_bd q
 have h1 := lo_le (q := p) (by omega)
 have h2 := lo_lt (q := q) (by omega)
 have h3 := (vz_le (j := kLo q + 1) (k := kLo p)).2 (by omega)
 have hp : (0 : Int) < p.den := by have := p.den_pos; omega
 have hq : (0 : Int) < q.den := by have := q.den_pos; omega
 have hs : (0 : Int) < sc := by have := sc_pos; omega
 -- q < v(kLo q + 1) ≤ v(kLo p) ≤ p
 have a := Int.mul_lt_mul_of_pos_right h2 hp
 have b := Int.mul_le_mul_of_nonneg_right (Int.mul_le_mul_of_nonneg_right h3 (Int.le_of_lt hq)) (Int.le_of_lt hp)
 have c := Int.mul_le_mul_of_nonneg_right h1 (Int.le_of_lt hq)
 have e1 : q.num * sc * p.den = q.num * p.den * sc := by rw [Int.mul_assoc, Int.mul_comm (sc : Int), ← Int.mul_assoc]
 have e2 : p.num * sc * q.den = p.num * q.den * sc := by rw [Int.mul_assoc, Int.mul_comm (sc : Int), ← Int.mul_assoc]
 have e3 : vz (kLo p) * q.den * p.den = vz (kLo p) * p.den * q.den := by rw [Int.mul_assoc, Int.mul_comm (q.den : Int), ← Int.mul_assoc]
 rw [e1] at a
 rw [e3] at b
 rw [e2] at c
 have d := Int.lt_of_mul_lt_mul_right (Int.lt_of_lt_of_le a (Int.le_trans b c)) (Int.le_of_lt hs)
 omega
theorem kHi_mono {p q : Rat} (h : p.num * q.den ≤ q.num * p.den) : kHi p ≤ kHi q := by
 have := kLo_mono (p := -q) (q := -p) (by
  show -q.num * p.den ≤ -p.num * q.den
  rw [Int.neg_mul, Int.neg_mul]; omega)
 rw [kLo_neg, kLo_neg] at this
 omega
theorem less_sure {p q : Rat} (h : kHi p < kLo q) : p.num * q.den < q.num * p.den := by
 obtain ⟨_, _, b1, b2, _⟩ := k_bd p
 obtain ⟨c1, c2, _⟩ := k_bd q
 exact cross_lt (hi_ge (by omega)) (vz_lt.2 h) (lo_le (by omega))
theorem least_sure {p q : Rat} (h : kHi p ≤ kLo q) : p.num * q.den ≤ q.num * p.den := by
 obtain ⟨_, _, b1, b2, _⟩ := k_bd p
 obtain ⟨c1, c2, _⟩ := k_bd q
 have hq : (0 : Int) ≤ q.den := by omega
 exact cross (hi_ge (by omega)) (Int.le_trans (Int.mul_le_mul_of_nonneg_right (vz_le.2 h) hq) (lo_le (by omega)))
end Go.Flo
