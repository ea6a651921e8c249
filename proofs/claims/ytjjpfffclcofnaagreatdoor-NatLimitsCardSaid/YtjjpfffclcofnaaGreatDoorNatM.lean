/-
  NatOrder, NatShifts answer true on all values. No conditions.
-/
import Derived.Test.YtjjpfffclcofnaaGreatDoorNatK
set_option linter.unusedSimpArgs false
set_option linter.unusedVariables false
set_option linter.constructorNameAsVariable false

/-
  NatOrder and NatShifts answer true.
-/
namespace Go.Proofs.YtjjpfffclcofnaaGreatDoor
open Go Go.Abs Go.Limbs
variable {base : Prot}
set_option maxRecDepth 20000
attribute [local irreducible] vc
attribute [local simp] pureS touchV freezeL fuel shiftV u64 au

theorem lorder_ok : FnOk Tryz.prog base2 6 (pureS sLaw2) := by
  refine pure_of_vc hmix Tlw_ok globNone low6 fun args z hs hf => ?_
  unfold sLaw2 at hs
  split at hs
  case h_2 => cases hs
  rename_i xs ys
  split at hs
  case h_2 => cases hs
  rename_i a b ha hb
  obtain ⟨rfl, wa⟩ := decU_some ha
  obtain ⟨rfl, wb⟩ := decU_some hb
  cases hs
  refine ⟨by simp [lf6], ?_⟩
  have aw := sAwake_nil
  have va := sValid_list wa
  have vb := sValid_list wb
  by_cases la : a.length ≤ 20
  case neg =>
    have la' : (20 : Int) < a.length := by omega
    simp [lf6, la, la', aw, Tlw_mu, Tlw_fns]
  have la' : ¬ (20 : Int) < a.length := by omega
  by_cases lb : b.length ≤ 20
  case neg =>
    have lb' : (20 : Int) < b.length := by omega
    simp [lf6, la, la', lb, lb', aw, Tlw_mu, Tlw_fns]
  have lb' : ¬ (20 : Int) < b.length := by omega
  cases oa : okL a with
  | false => rw [oa] at va; simp [lf6, la, la', lb, lb', va, aw, Tlw_mu, Tlw_fns]
  | true =>
  rw [oa] at va
  cases ob : okL b with
  | false => rw [ob] at vb; simp [lf6, la, la', lb, lb', va, vb, aw, Tlw_mu, Tlw_fns]
  | true =>
  rw [ob] at vb
  obtain ⟨A, rfl, lA⟩ := okL_true oa
  obtain ⟨X, rfl, lX⟩ := okL_true ob
  have kA : len A ≤ 20 := la
  have kX : len X ≤ 20 := lb
  have eA : (limbs A).length = len A := rfl
  have eX : (limbs X).length = len X := rfl
  rw [eA] at la la'
  rw [eX] at lb lb'
  obtain ⟨S, hS⟩ : ∃ t, A + X = t := ⟨_, rfl⟩
  have lS : len S ≤ 21 := by have := len_add A X; rw [hS] at this; omega
  have h1 := cCmp lA lX
  have h2 := cCmp lX lA
  have h3 := cAdd lA lX hS (by omega)
  have h4 := cCmp (a := S) (b := A) (by omega) lA
  have h5 := cCmp (a := S) (b := X) (by omega) lX
  have h6 := cBits lA
  have h7 := cBits lX
  have s1 : ¬ cmpI S A < 0 := fun h => by have := cmpI_neg.1 h; omega
  have s2 : ¬ cmpI S X < 0 := fun h => by have := cmpI_neg.1 h; omega
  obtain ⟨P1, hP1⟩ : ∃ t, cmpI S A = t := ⟨_, rfl⟩
  obtain ⟨P2, hP2⟩ : ∃ t, cmpI S X = t := ⟨_, rfl⟩
  obtain ⟨Z1, hZ1⟩ : ∃ t, size A = t := ⟨_, rfl⟩
  obtain ⟨Z2, hZ2⟩ : ∃ t, size X = t := ⟨_, rfl⟩
  rw [hP1] at h4 s1
  rw [hP2] at h5 s2
  rw [hZ1] at h6
  rw [hZ2] at h7
  have hsame := sSame_two A X
  have wr0 : IntKind.i64.wrap 0 = 0 := rfl
  have wr1 : IntKind.i64.wrap 1 = 1 := rfl
  have wrm : IntKind.i64.wrap (-1) = -1 := rfl
  rcases Nat.lt_trichotomy A X with h | h | h
  · have hs := cSubLess h
    have hl : len A ≤ len X := len_mono (Nat.le_of_lt h)
    have hz : Z1 ≤ Z2 := by rw [← hZ1, ← hZ2]; exact size_mono (Nat.le_of_lt h)
    have hl' : ¬ len X < len A := by omega
    have hz' : ¬ Z2 < Z1 := by omega
    have hne : ¬ A = X := by omega
    rw [cmpI_lt h] at h1
    rw [cmpI_gt h] at h2
    rw [decide_eq_false hne] at hsame
    simp [lf6, eA, eX, la, la', lb, lb', va, vb, aw, h1, h2, h3, h4, h5, h6, h7, s1, s2, wr0, wr1, wrm, hs, hsame, hl, hz, hl', hz', Tlw_mu, Tlw_fns]
  · subst h
    have hs := cSub (s := 0) lA lA (by omega)
    have hzz : Z1 = Z2 := by rw [← hZ1, ← hZ2]
    subst hzz
    rw [cmpI_eq] at h1
    rw [decide_eq_true rfl] at hsame
    rw [limbs_zero] at hs
    simp only [List.map_nil] at hs
    simp [lf6, eA, la, la', va, aw, h1, h3, h4, h5, h6, s1, s2, wr0, wr1, wrm, hs, hsame, Tlw_mu, Tlw_fns]
  · obtain ⟨D, hD⟩ : ∃ D, X + D = A := ⟨A - X, by omega⟩
    have hs := cSub (s := D) lA lX hD
    have hne : ¬ A = X := by omega
    rw [cmpI_gt h] at h1
    rw [cmpI_lt h] at h2
    rw [decide_eq_false hne] at hsame
    by_cases hl : len A ≤ len X
    · have hl' : ¬ len X < len A := by omega
      by_cases hz : Z1 ≤ Z2
      · have hz' : ¬ Z2 < Z1 := by omega
        simp [lf6, eA, eX, la, la', lb, lb', va, vb, aw, h1, h2, h3, h4, h5, h6, h7, s1, s2, wr0, wr1, wrm, hs, hsame, hl, hz, hl', hz', Tlw_mu, Tlw_fns]
      · have hz' : Z2 < Z1 := by omega
        simp [lf6, eA, eX, la, la', lb, lb', va, vb, aw, h1, h2, h3, h4, h5, h6, h7, s1, s2, wr0, wr1, wrm, hs, hsame, hl, hz, hl', hz', Tlw_mu, Tlw_fns]
    · have hl' : len X < len A := by omega
      by_cases hz : Z1 ≤ Z2
      · have hz' : ¬ Z2 < Z1 := by omega
        simp [lf6, eA, eX, la, la', lb, lb', va, vb, aw, h1, h2, h3, h4, h5, h6, h7, s1, s2, wr0, wr1, wrm, hs, hsame, hl, hz, hl', hz', Tlw_mu, Tlw_fns]
      · have hz' : Z2 < Z1 := by omega
        simp [lf6, eA, eX, la, la', lb, lb', va, vb, aw, h1, h2, h3, h4, h5, h6, h7, s1, s2, wr0, wr1, wrm, hs, hsame, hl, hz, hl', hz', Tlw_mu, Tlw_fns]

theorem len_two (n : Nat) : len (2 ^ n) = n / 64 + 1 := by
  have h1 : 2 ^ n < B ^ (n / 64 + 1) := by rw [B_pow]; exact Nat.pow_lt_pow_right (by omega) (by omega)
  have h2 : B ^ (n / 64) ≤ 2 ^ n := by rw [B_pow]; exact Nat.pow_le_pow_right (by omega) (by omega)
  have h3 := len_le h1
  have h4 := lt_len_iff.2 h2
  omega

theorem shifts_ok : FnOk Tryz.prog base2 7 (pureS sLawI) := by
  refine pure_of_vc hmix Tlw_ok globNone low7 fun args z hs hf => ?_
  unfold sLawI at hs
  split at hs
  case h_2 => cases hs
  rename_i xs n
  split at hs
  case h_2 => cases hs
  rename_i a ha
  obtain ⟨rfl, wa⟩ := decU_some ha
  cases hs
  refine ⟨by simp [lf7], ?_⟩
  have aw := sAwake_nil
  have va := sValid_list wa
  by_cases la : a.length ≤ 8
  case neg =>
    have la' : (8 : Int) < a.length := by omega
    simp [lf7, la, la', aw, Tlw_mu, Tlw_fns]
  have la' : ¬ (8 : Int) < a.length := by omega
  cases oa : okL a with
  | false => rw [oa] at va; simp [lf7, la, la', va, aw, Tlw_mu, Tlw_fns]
  | true =>
  rw [oa] at va
  by_cases n0 : n < 0
  · simp [lf7, la, la', va, n0, aw, Tlw_mu, Tlw_fns]
  by_cases n6 : 600 < n
  · simp [lf7, la, la', va, n0, n6, aw, Tlw_mu, Tlw_fns]
  obtain ⟨k, rfl⟩ := Int.eq_ofNat_of_zero_le (a := n) (by omega)
  obtain ⟨A, rfl, lA⟩ := okL_true oa
  have eA : (limbs A).length = len A := rfl
  rw [eA] at la la'
  obtain ⟨p, hp⟩ : ∃ t, 2 ^ k = t := ⟨_, rfl⟩
  have p0 : 0 < p := by rw [← hp]; exact Nat.two_pow_pos k
  have lp : len p ≤ 10 := by rw [← hp, len_two]; omega
  obtain ⟨U, hU⟩ : ∃ t, A * p = t := ⟨_, rfl⟩
  obtain ⟨Q, hQ⟩ : ∃ t, A / p = t := ⟨_, rfl⟩
  obtain ⟨R, hR⟩ : ∃ t, A % p = t := ⟨_, rfl⟩
  have lU : len U ≤ 18 := by have := len_mul A p; rw [hU] at this; omega
  have hw : IntKind.i64.wrap (-(k : Int)) = -(k : Int) := IntWalk.i64_in _ (by omega)
  have hw1 : IntKind.i64.wrap ((k : Int) + 1) = ((k + 1 : Nat) : Int) := wrap_succ (i := k) (by omega)
  have hl1 : limbs 1 = [1] := limbs_small (by decide) (by decide)
  have h1 := cUp (a := 1) (k := k) (s := p) (by rw [len, hl1]; decide) (by omega) (by rw [hp, Nat.one_mul]) (by omega)
  rw [hl1] at h1
  simp only [List.map_cons, List.map_nil, u64] at h1
  simp at h1
  have h2 := cUp (a := A) (k := k) (s := U) lA (by omega) (by rw [hp]; exact hU) (by omega)
  have h3 := cMul (a := A) (b := p) lA (by omega) hU (by omega)
  have h4 := cDown (a := A) (k := k) (s := Q) lA (by omega) (by rw [hp]; exact hQ)
  have h5 := cDiv (a := A) (b := p) lA (by omega) (by omega) hQ hR
  have h6 := cDown (a := U) (k := k) (s := A) (by omega) (by omega) (by rw [hp, ← hU]; exact Nat.mul_div_cancel _ p0)
  have h7 := cBits (a := p) (by omega)
  have h8 := cBits (a := U) (by omega)
  have h9 := cBits (a := A) lA
  rw [show size p = k + 1 by rw [← hp]; exact size_two k] at h7
  by_cases hz : A = 0
  · subst hz
    rw [Nat.zero_mul] at hU
    rw [Nat.zero_div] at hQ
    rw [Nat.zero_mod] at hR
    subst hU hQ hR
    rw [limbs_zero] at h2 h3 h4 h5 h6 h8 h9 va
    rw [size_zero] at h8
    simp only [List.map_nil] at h2 h3 h4 h5 h6 h8 h9 va
    have hss := sSame_self Wf.nil
    simp only [List.map_nil] at hss
    simp [lf7, limbs_zero, va, n0, n6, aw, hw, hw1, h1, h2, h3, h4, h5, h6, h7, h8, hss, sSame_num, fillS, freeze1, Tlw_mu, Tlw_fns]
  · have hsz := size_shift hz k
    rw [hp, hU] at hsz
    have lA0 : len A ≠ 0 := fun e => hz (len_eq_zero.1 e)
    have lAi : ((len A : Int) == 0) = false := beq_false_of_ne (by omega)
    have lAp : (0 : Int) < len A := by omega
    have lAn : 0 < len A := by omega
    have z64 : size A ≤ 64 * len A := by rw [size_le_iff, ← B_pow]; exact lt_len A
    have hw2 : IntKind.i64.wrap ((size A : Int) + k) = ((size A + k : Nat) : Int) := by rw [← Int.natCast_add]; exact wrap_i (by omega)
    rw [hsz] at h8
    simp [lf7, eA, la, la', lA0, lAi, lAp, lAn, va, n0, n6, aw, hw, hw1, hw2, h1, h2, h3, h4, h5, h6, h7, h8, h9, sSame_num, fillS, freeze1, Tlw_mu, Tlw_fns]
end Go.Proofs.YtjjpfffclcofnaaGreatDoor
