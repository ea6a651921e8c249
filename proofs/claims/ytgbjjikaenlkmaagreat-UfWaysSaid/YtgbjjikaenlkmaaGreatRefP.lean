/-
  What the reference's division and greatest divisors compute, for at most 90000 limbs.
-/
import Derived.Test.YtgbjjikaenlkmaaGreatRefO
set_option linter.unusedSimpArgs false
set_option linter.unnecessarySimpa false
set_option linter.unusedVariables false
set_option linter.constructorNameAsVariable false

/-
 The reference: a number moved up or down by binary digits.
-/
namespace Go.Proofs.YtgbjjikaenlkmaaGreat
open Go Go.Abs Go.Limbs
variable {base : Prot}
set_option maxRecDepth 20000
attribute [local irreducible] vc
attribute [local simp] pureS touchV freezeL fuel shiftV u64 au
def sRShift : List PVal → Option PVal
 | [.lst xs, .int .i64 n] => match decN xs with | some a => if -6000000 ≤ n ∧ n ≤ 6000000 then some (numP (if n < 0 then a / 2 ^ (-n).toNat else a * 2 ^ n.toNat)) else none | _ => none
 | _ => none
theorem sRShift_up {a n : Nat} (ha : len a ≤ 100000) (hn : n ≤ 6000000) : sRShift [.lst ((limbs a).map u64), .int .i64 n] = some (.lst ((limbs (a * 2 ^ n)).map u64)) := by
 simp only [sRShift, decN_num ha]
 rw [if_pos ⟨by omega, by omega⟩, if_neg (by omega)]
 rfl
def Trt : Tab := Tab.none.with 66 (pureS sTrim)
theorem Trt_ok : TabOk Tryz.prog base Trt := Tab.with_ok Tab.none_ok rtrim_ok
theorem Trt_mu (f : FuncId) (a : List AVal) (H : Heap) : Trt.mu f a H = none := (rfl)
theorem Trt_trim : Trt.fn 66 = pureS sTrim := (rfl)
theorem rup_loop {a m w s : Nat} {R : LExit → AFr → Heap → Prop} {fr : AFr} {H : Heap} (hla : len a ≤ 100000) (hw : w = m / 64) (hs : s = m % 64) (hm : m ≤ 6000000) (hH : H = [rowE 0 (List.replicate w 0)]) (f0 : fr 0 = .p (.lst ((limbs a).map u64)))
  (f9 : fr 9 = .own 0 0 w 0) (f10 : fr 10 = .p (.int .u64 s)) (f11 : fr 11 = .p (.int .u64 0)) (f12 : fr 12 = .p (.int .i64 0))
  (hR : ∀ (fr' : AFr) (H' : Heap) (l : List Nat) (c : Nat) (x : AVal), l.length = w + len a → Wf l → c < B → val l + B ^ (w + len a) * c = a * 2 ^ m → IsRow H' x l → fr' 9 = x → fr' 11 = .p (.int .u64 c) → R .normal fr' H') : vc Trt lf133_B1 R fr H := by
 have la : (limbs a).length = len a := rfl
 have wa := wf_limbs a
 have hs64 : s < 64 := by omega
 have hpow : 2 ^ m = B ^ w * 2 ^ s := by rw [B_pow, ← Nat.pow_add, show 64 * w + s = m by omega]
 simp only [lf133_B1, vc_block]
 refine loop_ind (fun fr H => ∃ (i : Nat) (l : List Nat) (c : Nat) (x : AVal), i ≤ len a ∧ l.length = w + i ∧ Wf l ∧ c < 2 ^ s ∧ val l + B ^ (w + i) * c = val ((limbs a).take i) * 2 ^ m ∧ IsRow H x l ∧
   fr 0 = .p (.lst ((limbs a).map u64)) ∧ fr 9 = x ∧ fr 10 = .p (.int .u64 s) ∧ fr 11 = .p (.int .u64 c) ∧ fr 12 = .p (.int .i64 i))
  (fun fr _ => len a - ivar (fr 12)) ⟨0, List.replicate w 0, 0, .own 0 0 w 0, by omega, by simp, Wf.zeros _, Nat.two_pow_pos s, by simp [val_nil, val_zeros], .inr ⟨0, 0, by simp, by rw [hH]; rfl⟩, f0, f9, f10, by rw [f11]; rfl, by rw [f12]; rfl⟩ ?_
 rintro fr H ⟨i, l, c, x, hi, hl, hwl, hc, hv, hR', f0, f9, f10, f11, f12⟩
 subst f9
 have hcB : c < B := Nat.lt_of_lt_of_le hc (by rw [← pow64]; exact Nat.pow_le_pow_right (by omega) (by omega))
 by_cases hlt : i < len a
 ·obtain ⟨y, hy⟩ : ∃ y, (limbs a)[i]? = some y := ⟨_, List.getElem?_eq_getElem (by omega)⟩
  have hyB := wa.get hy
  obtain ⟨lo, hlo⟩ : ∃ t, t = y * 2 ^ s % B := ⟨_, rfl⟩
  obtain ⟨hb, hhb⟩ : ∃ t, t = y * 2 ^ s / B := ⟨_, rfl⟩
  have hsum : c + lo < B := by rw [hlo]; exact shl_sum_lt (by omega) hc
  have hbl : hb < 2 ^ s := by rw [hhb]; exact shl_high_lt hyB
  have hloB : lo < B := by omega
  have e1 : shiftI .shl .u64 y s = some (.int .u64 lo) := by rw [shl_word (by omega), hlo]
  have e2 : shiftI .shr .u64 y ((64 - s : Nat) : Int) = some (.int .u64 hb) := by rw [shr_word (by omega), hhb, shl_high (by omega)]
  have e3 : IntKind.u64.wrap (64 - (s : Int)) = ((64 - s : Nat) : Int) := by rw [IntWalk.u64_in _ (by omega)]; omega
  have e4 := or_bits hloB hcB
  rw [show lo ||| c = c + lo by rw [Nat.or_comm, hlo]; exact or_shl (by omega) hc] at e4
  obtain ⟨D, hD⟩ : ∃ t, t = c + lo := ⟨_, rfl⟩
  rw [← hD] at e4 hsum
  have hw5 := wrap_succ (i := i) (by omega)
  obtain ⟨j, ver, H', happ, hj⟩ := app_row hR' D (by omega) ⟨1, 0, false, [.p (.int .u64 D)], 147⟩
  have hRn : IsRow H' (.own j 0 (l.length + 1) ver) (l ++ [D]) := by
   have := IsRow.own hj
   simpa using this
  have hwn : Wf (l ++ [D]) := hwl.append (Wf.cons hsum Wf.nil)
  have hnew : val (l ++ [D]) + B ^ (w + (i + 1)) * hb = val ((limbs a).take (i + 1)) * 2 ^ m := by
   rw [val_snoc, hl, val_take_succ hy, hD, hlo, hhb, ← Nat.add_assoc, Nat.pow_succ]
   refine shl_step hv ?_
   rw [hpow, Nat.pow_add]
   rw [Nat.mul_assoc, Nat.mul_comm (B ^ i), Nat.mul_assoc]
  by_cases hs0 : s = 0
  ·subst hs0
   rw [show ((0 : Nat) : Int) = 0 from rfl] at e1
   have hb0 : hb = 0 := by omega
   simp [-BitVec.toNat_or, f0, f10, f11, f12, la, hlt, getE hy, e1, e4, happ, hw5, fillS, ivar, -appV]
   rw [hb0, Nat.mul_zero, Nat.add_zero] at hnew
   exact ⟨⟨i + 1, by omega, l ++ [D], by simp; omega, hwn, hnew, _, hRn, rfl, by omega⟩, by omega⟩
  ·have hsI : (0 : Int) < s := by omega
   have hsN : 0 < s := by omega
   simp [-BitVec.toNat_or, f0, f10, f11, f12, la, hlt, getE hy, e1, e2, e3, e4, happ, hsI, hsN, hw5, fillS, ivar, -appV]
   exact ⟨⟨i + 1, by omega, l ++ [D], by simp; omega, hwn, hb, hbl, hnew, _, hRn, rfl, rfl, by omega⟩, by omega⟩
 ·obtain rfl : i = len a := by omega
  rw [List.take_of_length_le (by omega), val_limbs] at hv
  simp [f0, f12, la]
  exact hR _ H l c _ hl hwl hcB hv hR' (by simp) (by simp [f11])
theorem rshift_ok : FnOk Tryz.prog base 133 (pureS sRShift) := by
 refine pure_of_vc hmix Trt_ok globNone low133 fun args z hs hf => ?_
 unfold sRShift at hs
 split at hs
 case h_2 => cases hs
 rename_i xs n
 split at hs
 case h_2 => cases hs
 rename_i a ha
 split at hs
 case isFalse => cases hs
 rename_i hn
 cases hs
 obtain ⟨rfl, hla⟩ := decN_some ha
 refine ⟨by simp [lf133], ?_⟩
 have la : (limbs a).length = len a := rfl
 have wa := wf_limbs a
 by_cases hneg : n < 0
 ·obtain ⟨m, hm⟩ : ∃ m : Nat, -n = m := ⟨(-n).toNat, by omega⟩
  obtain ⟨w, hw⟩ : ∃ w, w = m / 64 := ⟨_, rfl⟩
  obtain ⟨s, hs⟩ : ∃ s, s = m % 64 := ⟨_, rfl⟩
  have hs64 : s < 64 := by omega
  have q0 : IntKind.i64.wrap (-n) = (m : Int) := by rw [IntWalk.i64_in _ (by omega), hm]
  have q1' : IntKind.i64.wrap ((m : Int) / 64) = (w : Int) := by rw [IntWalk.i64_in _ (by omega)]; omega
  have q1 : IntKind.i64.wrap ((m : Int).tdiv 64) = (w : Int) := by rw [Int.tdiv_eq_ediv_of_nonneg (by omega), q1']
  have q2 : (m : Int).tmod 64 = (s : Int) := by rw [Int.tmod_eq_emod_of_nonneg (by omega)]; omega
  have q3 : IntKind.u64.wrap (s : Int) = s := IntWalk.u64_in _ (by omega)
  have hpow : 2 ^ m = B ^ w * 2 ^ s := by rw [B_pow, ← Nat.pow_add, show 64 * w + s = m by omega]
  have hmn : (-n).toNat = m := by omega
  rw [if_pos hneg, hmn]
  by_cases hwl : len a ≤ w
  ·have hz : a / 2 ^ m = 0 := by
    refine Nat.div_eq_of_lt (Nat.lt_of_lt_of_le (lt_len a) (Nat.le_trans (Bpow_le hwl) ?_))
    rw [hpow]
    exact Nat.le_mul_of_pos_right _ (Nat.two_pow_pos s)
   rw [hz]
   simp [lf133, la, hneg, q0, q1, q1', hwl, numP, lstP, limbs_zero]
  ·obtain ⟨A, hA⟩ : ∃ A, A = (limbs a).drop w := ⟨_, rfl⟩
   have wA : Wf A := by rw [hA]; exact wa.drop _
   have hAv : val A = a / B ^ w := by rw [hA, val_drop_eq wa, val_limbs]
   have hAl : A.length = len a - w := by rw [hA]; simp [la]
   have hAA' : List.drop w (List.map u64 (limbs a)) = A.map u64 := by rw [hA, List.map_drop]
   have hAA : List.drop w (List.take (len a) (List.map u64 (limbs a))) = A.map u64 := by
    rw [List.take_of_length_le (by simp [la]), hAA']
   have hwle : w ≤ len a := by omega
   have hdiv : a / 2 ^ m = val A / 2 ^ s := by rw [hAv, Nat.div_div_eq_div_mul, ← hpow]
   have hcap := mul_capI A.length (by omega)
   rw [hdiv]
   have happ := app_num (H := [rowE 0 []]) (k := 0) (ver := 0) (out := []) (ys := A) rfl (by simp; omega)
   simp only [List.length_nil, Nat.zero_add, List.nil_append, List.set_cons_zero] at happ
   simp [rowE, -appV] at happ
   simp [lf133, la, hneg, q0, q1, q1', q2, q3, hwl, hwle, hAA, hAA', hcap, sizeOk_u64, fillS, mapO_au, touch_au, au_comp, happ, -appV]
   simp only [lf133_B0, vc_block]
   refine loop_ind (fun fr H => ∃ (i : Nat) (l : List Nat), i ≤ A.length ∧ (s = 0 → i = 0) ∧ l.length = A.length ∧ Wf l ∧ val (l.take i) = val A / 2 ^ s % B ^ i ∧ l.drop i = A.drop i ∧ H = [rowE 1 l] ∧
     fr 6 = .own 0 0 A.length 1 ∧ fr 7 = .p (.int .u64 s) ∧ fr 8 = .p (.int .i64 i))
    (fun fr _ => A.length - ivar (fr 8)) ⟨0, A, by omega, fun _ => rfl, rfl, wA, by simp [val_nil, Nat.mod_one], rfl, by simp [rowE], by simp, by simp, by simp⟩ ?_
   rintro fr H ⟨i, l, hi, hi0, hl, hwfl, hv, hdr, rfl, h6, h7, h8⟩
   by_cases hs0 : s = 0
   ·have hi0 := hi0 hs0
    subst hi0
    have hlA : l = A := by simpa using hdr
    subst hlA
    have hvl : val l = val l / 2 ^ s := by rw [hs0]; simp
    obtain ⟨hT, ht⟩ := row_end rfl hwfl (by omega) hvl
    have hsI : ¬ (0 : Int) < s := by omega
    have hsN : ¬ 0 < s := by omega
    simp only [numP, lstP] at ht
    by_cases hl0 : 0 < l.length
    ·simp [h6, h7, h8, hl0, hsI, hsN, rowE, hT, ht, mapO_au_take, mapO_au, touch_au, touch_au_take, Trt_mu, Trt_trim, numP, lstP, freeze1]
    ·omega
   ·have hsI : (0 : Int) < s := by omega
    have hsN : 0 < s := by omega
    by_cases hlt : i < A.length
    ·obtain ⟨x, hx⟩ : ∃ x, A[i]? = some x := ⟨_, List.getElem?_eq_getElem hlt⟩
     have hxB := wA.get hx
     have hil : i < l.length := by omega
     have hlx : l[i]? = some x := by
      have := congrArg (fun t => t[0]?) hdr
      simp only [List.getElem?_drop, Nat.add_zero] at this
      rw [this]; exact hx
     obtain ⟨xs, hxs⟩ : ∃ t, t = x / 2 ^ s := ⟨_, rfl⟩
     have hxsB : xs < B := by rw [hxs]; exact Nat.lt_of_le_of_lt (Nat.div_le_self _ _) hxB
     have e1 : shiftI .shr .u64 x s = some (.int .u64 xs) := by rw [shr_word (by omega), hxs]
     have hlimb := right_limb wA hx (show s ≤ 64 by omega)
     have step : ∀ t, val A / 2 ^ s / B ^ i % B = t → val ((l.set i t).take (i + 1)) = val A / 2 ^ s % B ^ (i + 1) := fun t ht => by
      rw [val_take_set hil, hv, mod_step ht]
     have hw5 := wrap_succ (i := i) (by omega)
     rw [dif_neg hs0] at hlimb
     have hdr' : ∀ t, (l.set i t).drop (i + 1) = A.drop (i + 1) := fun t => by
      rw [List.drop_set_of_lt (by omega), ← List.drop_drop, hdr, List.drop_drop]
     by_cases hlt2 : i + 1 < A.length
     ·obtain ⟨y, hy⟩ : ∃ y, A[i + 1]? = some y := ⟨_, List.getElem?_eq_getElem hlt2⟩
      have hly : l[i + 1]? = some y := by
       have := congrArg (fun t => t[1]?) hdr
       simp only [List.getElem?_drop] at this
       rw [this]; exact hy
      rw [hy] at hlimb
      simp only at hlimb
      obtain ⟨lo, hlo⟩ : ∃ t, t = y * 2 ^ (64 - s) % B := ⟨_, rfl⟩
      have hloB : lo < B := by rw [hlo]; exact Nat.mod_lt _ B_pos
      have e2 : shiftI .shl .u64 y ((64 - s : Nat) : Int) = some (.int .u64 lo) := by rw [shl_word (by omega), hlo]
      have e3 : IntKind.u64.wrap (64 - (s : Int)) = ((64 - s : Nat) : Int) := by rw [IntWalk.u64_in _ (by omega)]; omega
      have e4 := or_bits hxsB hloB
      rw [show xs ||| lo = xs + lo by rw [hxs, hlo]; exact shr_or (by omega) hxB] at e4
      obtain ⟨t, ht⟩ : ∃ t, t = xs + lo := ⟨_, rfl⟩
      rw [← ht] at e4
      have htB : t < B := by rw [← hxs, ← hlo, ← ht] at hlimb; rw [← hlimb]; exact Nat.mod_lt _ B_pos
      obtain ⟨i1, hi1⟩ : ∃ k, k = i + 1 := ⟨_, rfl⟩
      rw [← hi1] at hw5 hy hly
      have hlt3 : i1 < A.length := by omega
      have hne : ¬ i = i1 := by omega
      rw [← hxs, ← hlo, ← ht] at hlimb
      simp [h6, h7, h8, hl, hlt, hlt3, getE hlx, e1, hsI, hsN, rowE, hw5]
      rw [vc_regionW]
      refine ⟨[], ?_⟩
      simp [-BitVec.toNat_or, h6, h7, h8, hl, hlt, hlt3, getE hlx, getE hly, hne, e1, e2, e3, e4, rowE, hw5, ivar]
      exact ⟨⟨i1, by omega, fun h => absurd h hs0, l.set i t, by simp [hl], hwfl.set _ htB, by rw [hi1]; exact step _ hlimb, by rw [hi1]; exact hdr' t, by rw [List.map_set]; rfl, rfl⟩, by omega⟩
     ·have hy : A[i + 1]? = none := List.getElem?_eq_none (by omega)
      rw [hy] at hlimb
      simp only at hlimb
      rw [← hxs] at hlimb
      obtain ⟨i1, hi1⟩ : ∃ k, k = i + 1 := ⟨_, rfl⟩
      rw [← hi1] at hw5
      have hlt3 : ¬ i1 < A.length := by omega
      simp [h6, h7, h8, hl, hlt, hlt3, getE hlx, e1, hsI, hsN, rowE, hw5, ivar]
      exact ⟨⟨i1, by omega, fun h => absurd h hs0, l.set i xs, by simp [hl], hwfl.set _ hxsB, by rw [hi1]; exact step _ hlimb, by rw [hi1]; exact hdr' xs, by rw [List.map_set]; rfl, rfl⟩, by omega⟩
    ·have hil : i = A.length := by omega
     subst hil
     have hvl : val l = val A / 2 ^ s := by
      rw [List.take_of_length_le (by omega)] at hv
      rw [hv]
      exact Nat.mod_eq_of_lt (Nat.lt_of_le_of_lt (Nat.div_le_self _ _) (val_lt wA))
     obtain ⟨hT, ht⟩ := row_end hl hwfl (by omega) hvl
     simp only [numP, lstP] at ht
     simp [h6, h7, h8, hlt, hsI, hsN, rowE, hl, hT, ht, mapO_au_take, mapO_au, touch_au, touch_au_take, Trt_mu, Trt_trim, numP, lstP, freeze1]
 ·obtain ⟨m, rfl⟩ := Int.eq_ofNat_of_zero_le (a := n) (by omega)
  obtain ⟨w, hw⟩ : ∃ w, w = m / 64 := ⟨_, rfl⟩
  obtain ⟨s, hs⟩ : ∃ s, s = m % 64 := ⟨_, rfl⟩
  have hs64 : s < 64 := by omega
  have q1' : IntKind.i64.wrap ((m : Int) / 64) = (w : Int) := by rw [IntWalk.i64_in _ (by omega)]; omega
  have q1 : IntKind.i64.wrap ((m : Int).tdiv 64) = (w : Int) := by rw [Int.tdiv_eq_ediv_of_nonneg (by omega), q1']
  have q2 : (m : Int).tmod 64 = (s : Int) := by rw [Int.tmod_eq_emod_of_nonneg (by omega)]; omega
  have q2' : (m : Int) % 64 = (s : Int) := by omega
  have q3 : IntKind.u64.wrap (s : Int) = s := IntWalk.u64_in _ (by omega)
  have hpow : 2 ^ m = B ^ w * 2 ^ s := by rw [B_pow, ← Nat.pow_add, show 64 * w + s = m by omega]
  have hcap := mul_capI w (by omega)
  rw [if_neg hneg, Int.toNat_natCast]
  simp [lf133, la, hneg, q1, q1', q2, q2', q3, hcap]
  refine rup_loop (a := a) (m := m) (w := w) (s := s) hla hw hs (by omega) (by simp [rowE]) (by simp) (by simp) (by simp) (by simp) (by simp) ?_
  intro fr' H l c x hl hwl hcB hv hR f9 f11
  subst f9
  have hwn : Wf (l ++ [c]) := hwl.append (Wf.cons hcB Wf.nil)
  have hvl : val (l ++ [c]) = a * 2 ^ m := by rw [val_snoc, hl]; exact hv
  have ht := sTrim_map hwn (by simp; omega)
  rw [hvl] at ht
  obtain ⟨j, ver, H', happ, hj⟩ := app_row hR c (by omega) ⟨1, 0, false, [.p (.int .u64 c)], 147⟩
  obtain ⟨L, hL⟩ : ∃ t, t = l ++ [c] := ⟨_, rfl⟩
  have hLl : l.length + 1 = L.length := by rw [hL]; simp
  rw [← hL] at ht hj
  rw [hLl] at happ
  have htk : List.take L.length (L.map u64) = L.map u64 := List.take_of_length_le (by simp)
  unfold rowE at hj
  simp [f11, happ, fillS, -appV]
  simp [hj, ht, htk, mapO_au, touch_au, mapO_au_take, touch_au_take, Trt_mu, Trt_trim, numP, lstP]
end Go.Proofs.YtgbjjikaenlkmaaGreat

/-
 The reference: division by binary digits; the greatest common divisor.
-/
namespace Go.Proofs.YtgbjjikaenlkmaaGreat
open Go Go.Abs Go.Limbs
variable {base : Prot}
set_option maxRecDepth 20000
attribute [local irreducible] vc
attribute [local simp] pureS touchV freezeL fuel shiftV u64 au
def sQuotR : List PVal → Option PVal
 | [.lst xs, .lst ys] => match decN xs, decN ys with | some a, some b => if b = 0 ∨ 90000 < len a then none else some (.tup [numP (a / b), numP (a % b)]) | _, _ => none
 | _ => none
theorem sQuotR_num {a b : Nat} (ha : len a ≤ 90000) (hb : len b ≤ 100000) (h0 : b ≠ 0) : sQuotR [.lst ((limbs a).map u64), .lst ((limbs b).map u64)] = some (.tup [.lst ((limbs (a / b)).map u64), .lst ((limbs (a % b)).map u64)]) := by
 simp only [sQuotR, decN_num (show len a ≤ 100000 by omega), decN_num hb]
 rw [if_neg (by rintro (h | h); exact h0 h; omega)]; rfl
def Tdv : Tab := ((((Tab.none.with 120 (pureS sOrder)).with 134 (pureS sMinus)).with 133 (pureS sRShift)).with 66 (pureS sTrim)).with 132 (pureS sSize)
theorem Tdv_ok : TabOk Tryz.prog base Tdv := Tab.with_ok (Tab.with_ok (Tab.with_ok (Tab.with_ok (Tab.with_ok Tab.none_ok rcmp_ok) rsub_ok) rshift_ok) rtrim_ok) rbits_ok
theorem Tdv_mu (f : FuncId) (a : List AVal) (H : Heap) : Tdv.mu f a H = none := (rfl)
theorem Tdv_fns : Tdv.fn 120 = pureS sOrder ∧ Tdv.fn 134 = pureS sMinus ∧ Tdv.fn 133 = pureS sRShift ∧ Tdv.fn 66 = pureS sTrim ∧ Tdv.fn 132 = pureS sSize := ⟨rfl, rfl, rfl, rfl, rfl⟩
theorem bit_or {o t y : Nat} (ho : o = 2 ^ (t + 1) * y) : o ||| 2 ^ t = o + 2 ^ t := by
 rw [Nat.or_comm, ho, Nat.mul_comm (2 ^ (t + 1)) y, or_low (Nat.pow_lt_pow_right (by omega) (by omega)), Nat.add_comm]
theorem bit_limb {V Q w t : Nat} (ht : t < 64) (h : V = 2 ^ (64 * w + t + 1) * Q) : ∃ y, V / B ^ w % B = 2 ^ (t + 1) * y ∧ 2 ^ (t + 1) * y + 2 ^ t < B := by
 have e : V = B ^ w * (2 ^ (t + 1) * Q) := by rw [h, B_pow, ← Nat.mul_assoc, ← Nat.pow_add, Nat.add_assoc]
 have h2 : B = 2 ^ (t + 1) * 2 ^ (63 - t) := by rw [← Nat.pow_add, show t + 1 + (63 - t) = 64 by omega, pow64]
 refine ⟨Q % 2 ^ (63 - t), ?_, ?_⟩
 ·rw [e, Nat.mul_div_cancel_left _ (Bpow_pos w), h2, Nat.mul_mod_mul_left]
 ·have h3 : Q % 2 ^ (63 - t) + 1 ≤ 2 ^ (63 - t) := Nat.mod_lt _ (Nat.two_pow_pos _)
  have h4 := Nat.mul_le_mul_left (2 ^ (t + 1)) h3
  rw [← h2, Nat.mul_add, Nat.mul_one] at h4
  have h5 : 2 ^ t < 2 ^ (t + 1) := Nat.pow_lt_pow_right (by omega) (by omega)
  omega
theorem rdiv_ok : FnOk Tryz.prog base 104 (pureS sQuotR) := by
 refine pure_of_vc hmix Tdv_ok globNone low104 fun args z hs hf => ?_
 unfold sQuotR at hs
 split at hs
 case h_2 => cases hs
 rename_i xs ys
 split at hs
 case h_2 => cases hs
 rename_i a b ha hb
 split at hs
 case isTrue => cases hs
 rename_i hc
 cases hs
 have hb0 : b ≠ 0 := fun e => hc (.inl e)
 have hla' : len a ≤ 90000 := by omega
 obtain ⟨rfl, hla⟩ := decN_some ha
 obtain ⟨rfl, hlb⟩ := decN_some hb
 refine ⟨by simp [lf104], ?_⟩
 have la : (limbs a).length = len a := rfl
 have hO := sOrder_num hla hlb
 by_cases hab : a < b
 ·rw [cmpI_lt hab] at hO
  simp [lf104, hO, Nat.div_eq_of_lt hab, Nat.mod_eq_of_lt hab, limbs_zero, Tdv_mu, Tdv_fns, numP, lstP]
 ·have hcn : ¬ cmpI a b < 0 := fun h => by have := cmpI_neg.1 h; omega
  obtain ⟨c, hcc⟩ : ∃ t, t = cmpI a b := ⟨_, rfl⟩
  rw [← hcc] at hO hcn
  have hba : b ≤ a := by omega
  have h1 := sSize_num hla
  have h2 := sSize_num hlb
  have hsz := size_mono hba
  have sa : size a ≤ 64 * len a := by rw [size_le_iff, ← B_pow]; exact lt_len a
  obtain ⟨K, hK⟩ : ∃ K, size a = size b + K := ⟨size a - size b, by omega⟩
  have w1 : IntKind.i64.wrap ((size a : Int) - size b) = ((K + 1 : Nat) : Int) - 1 := by rw [IntWalk.i64_in _ (by omega)]; omega
  have hcap := mul_capI (len a) (by omega)
  have hbs : a < b * 2 ^ (K + 1) := by
   refine Nat.lt_of_lt_of_le (lt_size a) ?_
   have h3 := size_le hb0
   have h4 := size_pos hb0
   rw [hK, show size b + K = size b - 1 + (K + 1) by omega, Nat.pow_add]
   exact Nat.mul_le_mul_right _ h3
  simp [lf104, la, hO, hcn, h1, h2, w1, hcap, Tdv_mu, Tdv_fns]
  simp only [lf104_B0, vc_block]
  refine loop_ind (fun fr H => ∃ (c r Q : Nat) (ql : List Nat), c ≤ K + 1 ∧ r < b * 2 ^ c ∧ a = r + b * 2 ^ c * Q ∧ ql.length = len a ∧ Wf ql ∧ val ql = 2 ^ c * Q ∧ H = [rowE 0 ql] ∧
    fr 1 = .p (.lst ((limbs b).map u64)) ∧ fr 6 = .own 0 0 (len a) 0 ∧ fr 7 = .p (.lst ((limbs r).map u64)) ∧ fr 8 = .p (.int .i64 ((c : Int) - 1)))
   (fun fr _ => dvar (fr 8)) ⟨K + 1, a, 0, List.replicate (len a) 0, by omega, hbs, by omega, by simp, Wf.zeros _, by rw [val_zeros]; simp, by simp [rowE], by simp, by simp, by simp, by simp⟩ ?_
  rintro fr H ⟨c, r, Q, ql, hcK, hr, hA, hql, hwq, hqv, rfl, f1, f6, f7, f8⟩
  by_cases hc0 : 0 < c
  ·obtain ⟨k, rfl⟩ : ∃ m, c = m + 1 := ⟨c - 1, by omega⟩
   have e8 : (((k + 1 : Nat) : Int) - 1) = (k : Int) := by omega
   rw [e8] at f8
   have hra : r ≤ a := by rw [hA]; exact Nat.le_add_right _ _
   have hlr : len r ≤ 100000 := Nat.le_trans (len_mono hra) hla
   obtain ⟨s, hs⟩ : ∃ t, t = b * 2 ^ k := ⟨_, rfl⟩
   have hsh := sRShift_up (a := b) (n := k) hlb (by omega)
   rw [← hs] at hsh
   have hls : len s ≤ 100000 := by
    refine Nat.le_trans (len_le (k := len a) ?_) hla
    rw [hs, B_pow]
    refine Nat.lt_of_lt_of_le (m := 2 ^ (size b + k)) ?_ (Nat.pow_le_pow_right (by omega) (by omega))
    rw [Nat.pow_add]
    exact Nat.mul_lt_mul_of_pos_right (lt_size b) (Nat.two_pow_pos k)
   have hO2 := sOrder_num hlr hls
   obtain ⟨w, hw⟩ : ∃ w, w = k / 64 := ⟨_, rfl⟩
   obtain ⟨t, ht⟩ : ∃ t, t = k % 64 := ⟨_, rfl⟩
   have hkw : k = 64 * w + t := by omega
   have ht64 : t < 64 := by omega
   have q1' : IntKind.i64.wrap ((k : Int) / 64) = (w : Int) := by rw [IntWalk.i64_in _ (by omega)]; omega
   have q1 : IntKind.i64.wrap ((k : Int).tdiv 64) = (w : Int) := by rw [Int.tdiv_eq_ediv_of_nonneg (by omega), q1']
   have q2 : (k : Int).tmod 64 = (t : Int) := by rw [Int.tmod_eq_emod_of_nonneg (by omega)]; omega
   have q2' : (k : Int) % 64 = (t : Int) := by omega
   have q3 : IntKind.u64.wrap (t : Int) = t := IntWalk.u64_in _ (by omega)
   have w7 : IntKind.i64.wrap ((k : Int) - 1) = (k : Int) - 1 := IntWalk.i64_in _ (by omega)
   have hsb := size_pos hb0
   have hwl : w < len a := by omega
   obtain ⟨o, ho⟩ : ∃ o, ql[w]? = some o := ⟨_, List.getElem?_eq_getElem (by omega)⟩
   have hoB := hwq.get ho
   have hov : o = val ql / B ^ w % B := by rw [← val_drop_eq hwq, val_drop ho, Nat.add_mul_mod_self_left, Nat.mod_eq_of_lt hoB]
   obtain ⟨y, hy, hyB⟩ := bit_limb ht64 (show val ql = 2 ^ (64 * w + t + 1) * Q by rw [hqv, hkw])
   rw [← hov] at hy
   rw [← hy] at hyB
   have hor := bit_or hy
   have htB : 2 ^ t < B := by omega
   have e1 : shiftI .shl .u64 1 t = some (.int .u64 (2 ^ t : Nat)) := by
    have := shl_word (x := 1) (s := t) (by omega)
    rw [Nat.one_mul, Nat.mod_eq_of_lt htB] at this
    exact this
   have e4 := or_bits hoB htB
   rw [hor] at e4
   obtain ⟨o2, ho2⟩ : ∃ t', t' = o + 2 ^ t := ⟨_, rfl⟩
   obtain ⟨tt, htt⟩ : ∃ t', t' = 2 ^ t := ⟨_, rfl⟩
   rw [← ho2] at e4 hyB
   rw [← htt] at e1 e4
   have hset := val_set o2 ho
   have hb1 := bin_step (A := a) (r := r) (b := b) (P := 2 ^ k) (q := Q) (by rw [← Nat.pow_succ]; exact hA) (by rw [← Nat.pow_succ]; exact hr)
   rw [← hs] at hb1
   by_cases hle : s ≤ r
   ·obtain ⟨g1, g2⟩ := hb1.1 hle
    have hcn : ¬ cmpI r s < 0 := fun h => by have := cmpI_neg.1 h; omega
    have hcp : (0 : Int) ≤ cmpI r s := by omega
    obtain ⟨cc, hcc⟩ : ∃ t, t = cmpI r s := ⟨_, rfl⟩
    rw [← hcc] at hO2 hcp
    have hM := sMinus_num hlr hls hle
    obtain ⟨r2, hr2⟩ : ∃ t, t = r - s := ⟨_, rfl⟩
    rw [← hr2] at hM g1 g2
    have hnv : val (ql.set w o2) = 2 ^ k * (1 + 2 * Q) := by
     have e2 : B ^ w * 2 ^ t = 2 ^ k := by rw [B_pow, ← Nat.pow_add, hkw]
     have e3 : B ^ w * o2 = B ^ w * o + 2 ^ k := by rw [ho2, Nat.mul_add, e2]
     have e5 : 2 ^ k * (1 + 2 * Q) = 2 ^ k + 2 ^ (k + 1) * Q := by rw [Nat.mul_add, Nat.mul_one, Nat.pow_succ, Nat.mul_assoc]
     rw [e5, ← hqv]
     omega
    simp [-BitVec.toNat_or, f1, f6, f7, f8, hsh, hO2, hcp, hM, q1, q1', q2, q2', q3, w7, hwl, ho, hql, getE ho, e1, e4, rowE, dvar, Tdv_mu, Tdv_fns]
    exact ⟨k, by omega, r2, by rw [← hs]; exact g2, 1 + 2 * Q, by rw [← hs]; exact g1, ql.set w o2, by simp [hql], hwq.set _ hyB, hnv, by rw [List.map_set]; rfl, rfl, rfl⟩
   ·obtain ⟨g1, g2⟩ := hb1.2 hle
    have hcn : cmpI r s = -1 := cmpI_lt (by omega)
    rw [hcn] at hO2
    simp [f1, f6, f7, f8, hsh, hO2, w7, rowE, dvar, Tdv_mu, Tdv_fns]
    exact ⟨k, by omega, r, by rw [← hs]; exact g2, 2 * Q, by rw [← hs]; exact g1, ql, hql, hwq, by rw [hqv, Nat.pow_succ, Nat.mul_assoc], rfl, rfl, rfl⟩
  ·have : c = 0 := by omega
   subst this
   rw [Nat.pow_zero, Nat.mul_one] at hr hA
   rw [Nat.pow_zero, Nat.one_mul] at hqv
   obtain ⟨e1, e2⟩ := div_done (a := a) (k := b) (q := Q) (r := r) (by omega) hr
   rw [← e1, ← e2]
   obtain ⟨hT, ht⟩ := row_end hql hwq (by omega) hqv
   simp only [numP, lstP] at ht
   simp [f6, f7, f8, rowE, hql, hT, ht, mapO_au_take, mapO_au, touch_au, touch_au_take, Tdv_mu, Tdv_fns, freeze1, numP, lstP]
def Trg : Tab := Tab.none.with 104 (pureS sQuotR)
theorem Trg_ok : TabOk Tryz.prog base Trg := Tab.with_ok Tab.none_ok rdiv_ok
theorem Trg_mu (f : FuncId) (a : List AVal) (H : Heap) : Trg.mu f a H = none := (rfl)
theorem Trg_fn : Trg.fn 104 = pureS sQuotR := (rfl)
def sGcdR : List PVal → Option PVal
 | [.lst xs, .lst ys] => match decN xs, decN ys with | some a, some b => if len a ≤ 90000 ∧ len b ≤ 90000 then some (numP (Nat.gcd a b)) else none | _, _ => none
 | _ => none
theorem sGcdR_num {a b : Nat} (ha : len a ≤ 90000) (hb : len b ≤ 90000) : sGcdR [.lst ((limbs a).map u64), .lst ((limbs b).map u64)] = some (.lst ((limbs (Nat.gcd a b)).map u64)) := by
 simp only [sGcdR, decN_num (show len a ≤ 100000 by omega), decN_num (show len b ≤ 100000 by omega)]
 rw [if_pos ⟨ha, hb⟩]; rfl
theorem rgcd_ok : FnOk Tryz.prog base 103 (pureS sGcdR) := by
 refine pure_of_vc hmix Trg_ok globNone low103 fun args z hs hf => ?_
 unfold sGcdR at hs
 split at hs
 case h_2 => cases hs
 rename_i xs ys
 split at hs
 case h_2 => cases hs
 rename_i a b ha hb
 split at hs
 case isFalse => cases hs
 rename_i hc
 obtain ⟨ca, cb⟩ := hc
 cases hs
 obtain ⟨rfl, hla⟩ := decN_some ha
 obtain ⟨rfl, hlb⟩ := decN_some hb
 refine ⟨by simp [lf103], ?_⟩
 obtain ⟨G, hG⟩ : ∃ t, t = Nat.gcd a b := ⟨_, rfl⟩
 rw [← hG]
 simp [lf103]
 simp only [lf103_B0, vc_block]
 refine loop_ind (fun fr H => ∃ m n : Nat, len m ≤ 90000 ∧ len n ≤ 90000 ∧ Nat.gcd m n = G ∧ H = [] ∧ fr 0 = .p (.lst ((limbs m).map u64)) ∧ fr 1 = .p (.lst ((limbs n).map u64)))
  (fun fr _ => match fr 1 with | .p (.lst es) => (match decN es with | some n => n | none => 0) | _ => 0) ⟨a, b, ca, cb, hG.symm, rfl, by simp, by simp⟩ ?_
 rintro fr H ⟨m, n, hm, hn, hg, rfl, h0, h1⟩
 have ln : (limbs n).length = len n := rfl
 by_cases hz : n = 0
 ·subst hz
  rw [Nat.gcd_zero_right] at hg
  subst hg
  simp [h0, h1, limbs_zero, Trg_mu, numP, lstP]
 ·have hln : len n ≠ 0 := fun e => hz (len_eq_zero.1 e)
  have hlI : (0 : Int) < len n := by omega
  have hlN : 0 < len n := by omega
  have hq := sQuotR_num hm (show len n ≤ 100000 by omega) hz
  have hr : len (m % n) ≤ 90000 := Nat.le_trans (len_mono (Nat.le_of_lt (Nat.mod_lt _ (Nat.pos_of_ne_zero hz)))) hn
  have hd1 := decN_num (show len n ≤ 100000 by omega)
  have hd2 := decN_num (show len (m % n) ≤ 100000 by omega)
  obtain ⟨r, hrr⟩ : ∃ t, t = m % n := ⟨_, rfl⟩
  rw [← hrr] at hq hr hd2
  simp [h0, h1, ln, hlI, hlN, hq, hd1, hd2, Trg_mu, Trg_fn]
  refine ⟨⟨n, hn, r, hr, ?_, rfl, rfl⟩, by rw [hrr]; exact Nat.mod_lt _ (Nat.pos_of_ne_zero hz)⟩
  rw [hrr, Nat.gcd_comm, ← Nat.gcd_rec, Nat.gcd_comm]
  exact hg
end Go.Proofs.YtgbjjikaenlkmaaGreat
