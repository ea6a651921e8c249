/-
  NatLimits answers true on all values. No conditions.
-/
import Derived.Test.YtjjpfffclcofnaaGreatDoorNatM
set_option linter.unusedSimpArgs false
set_option linter.unusedVariables false
set_option linter.constructorNameAsVariable false

/-
  NatLimits answers true.
-/
namespace Go.Proofs.YtjjpfffclcofnaaGreatDoor
open Go Go.Abs Go.Limbs
variable {base : Prot}
set_option maxRecDepth 20000
attribute [local irreducible] vc
attribute [local simp] pureS touchV freezeL fuel shiftV u64

theorem limbs_top {x : Nat} (N : Nat) (hx : x < B) (h0 : x ≠ 0) : limbs (x * B ^ N) = List.replicate N 0 ++ [x] := by
  have hv : val (List.replicate N 0 ++ [x]) = x * B ^ N := by rw [val_append, val_zeros, List.length_replicate]; simp [val, Nat.mul_comm]
  rw [← hv]
  refine limbs_val ⟨Wf.append (Wf.zeros N) (Wf.cons hx Wf.nil), ?_⟩
  simpa using h0
theorem len_top {x : Nat} (N : Nat) (hx : x < B) (h0 : x ≠ 0) : len (x * B ^ N) = N + 1 := by rw [len, limbs_top N hx h0]; simp
theorem set_top {α : Type} (z x : α) (N m : Nat) (h : m = N + 1) : (List.replicate m z).set N x = List.replicate N z ++ [x] := by
  subst h
  rw [List.replicate_succ', List.set_append_right _ _ (by simp)]
  simp

set_option maxHeartbeats 4000000 in
theorem limits_ok : FnOk Tryz.prog base2 9 (pureS sLawII) := by
  refine pure_of_vc hmix Tlw_ok globNone low9 fun args z hs hf => ?_
  unfold sLawII at hs
  split at hs
  case h_2 => cases hs
  rename_i n k
  cases hs
  refine ⟨by simp [lf9], ?_⟩
  have aw := sAwake_nil
  by_cases n1 : n < 1
  · simp [lf9, n1, aw, Tlw_mu, Tlw_fns]
  by_cases n70 : 70 < n
  · simp [lf9, n1, n70, aw, Tlw_mu, Tlw_fns]
  by_cases k0 : k < 0
  · simp [lf9, n1, n70, k0, aw, Tlw_mu, Tlw_fns]
  by_cases k70 : 70 < k
  · simp [lf9, n1, n70, k0, k70, aw, Tlw_mu, Tlw_fns]
  obtain ⟨m, rfl⟩ := Int.eq_ofNat_of_zero_le (a := n) (by omega)
  obtain ⟨K, rfl⟩ := Int.eq_ofNat_of_zero_le (a := k) (by omega)
  obtain ⟨N, hN⟩ : ∃ N, m = N + 1 := ⟨m - 1, by omega⟩
  obtain ⟨K1, hK1⟩ : ∃ t, t = K + 1 := ⟨_, rfl⟩
  have w1 : IntKind.i64.wrap ((m : Int) - 1) = (N : Int) := by rw [IntWalk.i64_in _ (by omega)]; omega
  have w2 : IntKind.i64.wrap ((K : Int) + 1) = (K1 : Int) := by rw [wrap_succ (i := K) (by omega), hK1]
  obtain ⟨p, hp⟩ : ∃ t, t = 64 * N := ⟨_, rfl⟩
  have w3 : IntKind.i64.wrap (64 * (N : Int)) = (p : Int) := by rw [IntWalk.i64_in _ (by omega)]; omega
  obtain ⟨s, hsm⟩ : ∃ t, t = m + K := ⟨_, rfl⟩
  have w4 : IntKind.i64.wrap ((m : Int) + K) = (s : Int) := by rw [IntWalk.i64_in _ (by omega)]; omega
  obtain ⟨m1, hm1⟩ : ∃ t, t = m + 1 := ⟨_, rfl⟩
  have w5 : IntKind.i64.wrap ((m : Int) + 1) = (m1 : Int) := by rw [wrap_succ (i := m) (by omega), hm1]
  have c1 := mul_capI m (by omega)
  have c2 := mul_capI K1 (by omega)
  have hTB : (9223372036854775808 : Nat) < B := by decide
  obtain ⟨A, hA⟩ : ∃ t, t = 9223372036854775808 * B ^ N := ⟨_, rfl⟩
  obtain ⟨Y, hY⟩ : ∃ t, t = 1 * B ^ K := ⟨_, rfl⟩
  have lA : len A = m := by rw [hA, len_top N hTB (by decide), hN]
  have lY : len Y = K1 := by rw [hY, len_top K (by decide) (by decide), hK1]
  have eA := limbs_top N hTB (by decide)
  rw [← hA] at eA
  have eY := limbs_top (x := 1) K (by decide) (by decide)
  rw [← hY] at eY
  have sA : (List.replicate m (AVal.p (.int .u64 0))).set N (AVal.p (.int .u64 9223372036854775808)) = (limbs A).map au := by
    rw [set_top _ _ N m hN, eA]; simp [au]
  have sY : (List.replicate K1 (AVal.p (.int .u64 0))).set K (AVal.p (.int .u64 1)) = (limbs Y).map au := by
    rw [set_top _ _ K K1 hK1, eY]; simp [au]
  have hNm : N < m := by omega
  have hKm : K < K1 := by omega
  have lA' : (limbs A).length = m := lA
  have lY' : (limbs Y).length = K1 := lY
  have tA : List.take m ((limbs A).map u64) = (limbs A).map u64 := List.take_of_length_le (by simp [lA'])
  have tY : List.take K1 ((limbs Y).map u64) = (limbs Y).map u64 := List.take_of_length_le (by simp [lY'])
  by_cases m64 : 64 < m
  · have m64' : (64 : Int) < m := by omega
    have m64n : ¬ (m : Int) ≤ 64 := by omega
    have m64k : ¬ m ≤ 64 := by omega
    have hoA : okL (limbs A) = false := okL_long (by omega)
    have h1 : sAdd [.lst ((limbs A).map u64), .lst ((limbs A).map u64)] = some (.tup [.lst [], .int .i64 1]) := by
      rw [sAdd_list (wf_limbs A) (wf_limbs A)]; simp [addL, hoA, pairP, lstP]
    have h2 : sMul [.lst ((limbs A).map u64), .lst ((limbs Y).map u64)] = some (.tup [.lst [], .int .i64 1]) := by
      rw [sMul_list (wf_limbs A) (wf_limbs Y)]; simp [mulL2, hoA, pairP, lstP]
    have h3 : ∃ X E, sShift [.lst ((limbs Y).map u64), .int .i64 p] = some (.tup [.lst (List.map u64 X), .int .i64 E]) := ⟨_, _, by rw [sShift_list (wf_limbs Y)]; rfl⟩
    obtain ⟨X, E, h3⟩ := h3
    simp [lf9, n1, n70, k0, k70, aw, w1, w2, w3, w4, w5, c1, c2, hNm, hKm, sA, sY, lA', lY', tA, tY, mapO_au, touch_au, mapO_au_take, touch_au_take, h1, h2, h3, freeze1, Tlw_mu, Tlw_fns, m64', m64n, m64k]
  have m64' : ¬ (64 : Int) < m := by omega
  have m64n : (m : Int) ≤ 64 := by omega
  have m64k : m ≤ 64 := by omega
  have hAA : A + A = 1 * B ^ m := by
    rw [hA, hN, Nat.pow_succ, ← Nat.two_mul, ← Nat.mul_assoc, Nat.one_mul, Nat.mul_comm _ B]
    rfl
  obtain ⟨D, hD⟩ : ∃ t, t = A + A := ⟨_, rfl⟩
  have lD : len D = m1 := by rw [hD, hAA, len_top m (by decide) (by decide), hm1]
  have lD' : (limbs D).length = m1 := lD
  by_cases k64 : 64 < K1
  · have k64' : (64 : Int) < K1 := by omega
    have hoY : okL (limbs Y) = false := okL_long (by omega)
    have h1 : ∃ X E, sAdd [.lst ((limbs A).map u64), .lst ((limbs A).map u64)] = some (.tup [.lst (List.map u64 X), .int .i64 E]) := ⟨_, _, by rw [sAdd_list (wf_limbs A) (wf_limbs A)]; rfl⟩
    obtain ⟨X1, E1, h1⟩ := h1
    have h2 : sMul [.lst ((limbs A).map u64), .lst ((limbs Y).map u64)] = some (.tup [.lst [], .int .i64 1]) := by
      rw [sMul_list (wf_limbs A) (wf_limbs Y)]; simp [mulL2, hoY, pairP, lstP]
    have h3 : ∃ X E, sShift [.lst ((limbs Y).map u64), .int .i64 p] = some (.tup [.lst (List.map u64 X), .int .i64 E]) := ⟨_, _, by rw [sShift_list (wf_limbs Y)]; rfl⟩
    obtain ⟨X, E, h3⟩ := h3
    simp [lf9, n1, n70, k0, k70, aw, w1, w2, w3, w4, w5, c1, c2, hNm, hKm, sA, sY, lA', lY', tA, tY, mapO_au, touch_au, mapO_au_take, touch_au_take, h1, h2, h3, freeze1, Tlw_mu, Tlw_fns, m64', m64n, m64k, k64']
  have k64' : ¬ (64 : Int) < K1 := by omega
  have hs1 : s = N + K + 1 := by omega
  have hAY : A * Y = 9223372036854775808 * B ^ (N + K) := by rw [hA, hY, Nat.one_mul, Nat.mul_assoc, ← Nat.pow_add]
  have hYp : Y * 2 ^ p = 1 * B ^ (K + N) := by rw [hY, hp, ← B_pow, Nat.mul_assoc, ← Nat.pow_add]
  obtain ⟨U, hU⟩ : ∃ t, t = A * Y := ⟨_, rfl⟩
  obtain ⟨Z, hZ⟩ : ∃ t, t = Y * 2 ^ p := ⟨_, rfl⟩
  have lU : len U = s := by rw [hU, hAY, len_top _ hTB (by decide), hs1]
  have lZ : len Z = s := by rw [hZ, hYp, len_top _ (by decide) (by decide)]; omega
  have lU' : (limbs U).length = s := lU
  have lZ' : (limbs Z).length = s := lZ
  by_cases s64 : s ≤ 64
  · have s64' : (s : Int) ≤ 64 := by omega
    have h2 := cMul (a := A) (b := Y) (s := U) (by omega) (by omega) hU.symm (by omega)
    have h3 := cUp (a := Y) (k := p) (s := Z) (by omega) (by omega) hZ.symm (by omega)
    by_cases m6 : m = 64
    · have m6' : ((m : Int) == 64) = true := by simp; omega
      have m6n : ¬ (m : Int) < 64 := by omega
      have h1 : sAdd [.lst ((limbs A).map u64), .lst ((limbs A).map u64)] = some (.tup [.lst [], .int .i64 4]) := by
        rw [sAdd_list (wf_limbs A) (wf_limbs A), addL_num (by omega) (by omega), ← hD, heldL_big (by omega)]; rfl
      simp [lf9, n1, n70, k0, k70, aw, w1, w2, w3, w4, w5, c1, c2, hNm, hKm, sA, sY, lA', lY', tA, tY, mapO_au, touch_au, mapO_au_take, touch_au_take, h1, h2, h3, freeze1, Tlw_mu, Tlw_fns, m64', m64n, m64k, k64', s64', m6', m6n, lU', lZ']
    · have m6n : (m : Int) < 64 := by omega
      have m6f : ((m : Int) == 64) = false := beq_false_of_ne (by omega)
      have h1 := cAdd (a := A) (b := A) (s := D) (by omega) (by omega) hD.symm (by omega)
      simp [lf9, n1, n70, k0, k70, aw, w1, w2, w3, w4, w5, c1, c2, hNm, hKm, sA, sY, lA', lY', tA, tY, mapO_au, touch_au, mapO_au_take, touch_au_take, h1, h2, h3, freeze1, Tlw_mu, Tlw_fns, m64', m64n, m64k, k64', s64', m6n, m6f, lU', lZ', lD']
  · have s64' : ¬ (s : Int) ≤ 64 := by omega
    have h2 := cMulBig (a := A) (b := Y) (by omega) (by omega) (by rw [← hU]; omega)
    have h3 : sShift [.lst ((limbs Y).map u64), .int .i64 p] = some (.tup [.lst [], .int .i64 4]) := by
      rw [sShift_list (wf_limbs Y), shiftL_up (by omega) (by omega), ← hZ, heldL_big (by omega)]; rfl
    by_cases m6 : m = 64
    · have m6' : ((m : Int) == 64) = true := by simp; omega
      have m6n : ¬ (m : Int) < 64 := by omega
      have h1 : sAdd [.lst ((limbs A).map u64), .lst ((limbs A).map u64)] = some (.tup [.lst [], .int .i64 4]) := by
        rw [sAdd_list (wf_limbs A) (wf_limbs A), addL_num (by omega) (by omega), ← hD, heldL_big (by omega)]; rfl
      simp [lf9, n1, n70, k0, k70, aw, w1, w2, w3, w4, w5, c1, c2, hNm, hKm, sA, sY, lA', lY', tA, tY, mapO_au, touch_au, mapO_au_take, touch_au_take, h1, h2, h3, freeze1, Tlw_mu, Tlw_fns, m64', m64n, m64k, k64', s64', m6', m6n]
    · have m6n : (m : Int) < 64 := by omega
      have m6f : ((m : Int) == 64) = false := beq_false_of_ne (by omega)
      have h1 := cAdd (a := A) (b := A) (s := D) (by omega) (by omega) hD.symm (by omega)
      simp [lf9, n1, n70, k0, k70, aw, w1, w2, w3, w4, w5, c1, c2, hNm, hKm, sA, sY, lA', lY', tA, tY, mapO_au, touch_au, mapO_au_take, touch_au_take, h1, h2, h3, freeze1, Tlw_mu, Tlw_fns, m64', m64n, m64k, k64', s64', m6n, m6f, lD']
end Go.Proofs.YtjjpfffclcofnaaGreatDoor
