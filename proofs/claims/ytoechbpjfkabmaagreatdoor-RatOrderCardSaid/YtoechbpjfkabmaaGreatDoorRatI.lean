/-
  RatFloors and RatInts answer true on all values. No conditions.
-/
import Derived.Test.YtoechbpjfkabmaaGreatDoorRatH
set_option linter.unusedSimpArgs false
set_option linter.unusedVariables false
set_option linter.constructorNameAsVariable false

/-
  law3: RatFloors, RatInts, RatBetween answer true.
-/
namespace Go.Proofs.YtoechbpjfkabmaaGreatDoor
open Go Go.Abs Go.Limbs
variable {base : Prot}
set_option maxRecDepth 20000
attribute [local irreducible] vc
attribute [local simp] pureS touchV freezeL fuel shiftV u64 au
theorem few_one {p : Rat} (h : fewF (ofQ p) (ofQ p) = true) : Sm 10 p := (few_Sm h).1
theorem newQ_num {z : Int} (h : zl z ≤ 63) : sNew [iN z, iN 1] = some (pairF (ofQ (z : Rat), 0)) := by
  rw [sNew_num (by omega) (by rw [zl_one]; omega) (by decide), divInt_one, heldQ_ok (Sm_int (show len z.natAbs ≤ 64 from by unfold zl at h; omega) (by omega))]
theorem sSame_den {d : Nat} (h : 0 < d) : sSame [.lst ((limbs d).map u64), .lst [.int .u64 1]] = some (.bool (decide (d = 1))) := by
  have := sSame_two d 1
  rw [limbs_one] at this
  exact this
theorem floors_ok : FnOk Tryz.prog base2 10 (pureS sLw1) := by
  refine pure_of_vc hmix Tl3_ok globNone low10 fun args z hs hf => ?_
  obtain ⟨x, wx, rfl, rfl⟩ := f1_some hs
  refine ⟨by simp [lf10], ?_⟩
  have aw := sAwake3_nil
  have hfew1 : f2 fewP [x.enc, x.enc] = some (.bool (fewF x x)) := f2_at wx wx
  have v1 := vF wx
  cases hf1 : fewF x x with
  | false => rw [hf1] at hfew1; simp only [Fr.enc] at hfew1 ⊢; simp [lf10, hfew1, aw, fillS, Tl3_mu, Tl3_fns]
  | true =>
  rw [hf1] at hfew1
  cases ox : x.ok with
  | false => rw [ox] at v1; simp only [Fr.enc] at hfew1 v1 ⊢; simp [lf10, hfew1, v1, aw, fillS, Tl3_mu, Tl3_fns]
  | true =>
  rw [ox] at v1
  obtain ⟨a, ha64, rfl⟩ := Fr.ok_of ox
  have ha := few_one hf1
  have F := sFloor_num (Sm_mono ha (show 10 ≤ 60 by omega))
  have hl : zl a.floor ≤ 11 := len_floor ha.1
  have o1 := sIOf_one
  have N := newQ_num (z := a.floor) (by omega)
  have hSf : Sm 11 (a.floor : Rat) := Sm_int (show len a.floor.natAbs ≤ 11 from hl) (by omega)
  have D := subP_num ha64 (Sm_mono hSf (by omega)) (Sm_mono (Sm_sub ha hSf) (by omega))
  have hd64 : Sm 64 (a - (a.floor : Rat)) := Sm_mono (Sm_sub ha hSf) (by omega)
  have g := signP_num hd64
  have h1 : Sm 64 (1 : Rat) := Sm_mono (Sm_lit (by decide) (by decide)) (by omega)
  have O := sQOf_num (n := 1) (d := 1) 1 (by omega) (by omega) (by rw [divInt_one]; rfl)
  have C := cmpP_num hd64 h1
  have S : sSame [.lst ((ofQ a).d.map u64), .lst [.int .u64 1]] = some (.bool (decide (a.den = 1))) := sSame_den a.den_pos
  have hfr := floor_frac a
  have hz := floor_zero_iff a
  have hc1 : ¬ 0 ≤ cmpQ (a - (a.floor : Rat)) 1 := by have := cmpQ_neg_iff.2 hfr.2; omega
  have hc0 : 0 ≤ cmpQ (a - (a.floor : Rat)) 0 := by
    have : ¬ a - (a.floor : Rat) < 0 := Rat.not_lt.2 hfr.1
    exact Int.not_lt.1 fun h => this (cmpQ_neg_iff.1 h)
  have hbe : (cmpQ (a - (a.floor : Rat)) 0 == 0) = decide (a.den = 1) := by
    by_cases hd : a.den = 1
    · rw [hz.2 hd, cmpQ_eq]; simp [hd]
    · have hne : ¬ a - (a.floor : Rat) = 0 := fun e => hd (hz.1 e)
      rw [decide_eq_false hd]
      exact beq_false_of_ne fun e => hne (cmpQ_zero_iff.1 e)
  obtain ⟨d, hd⟩ : ∃ d, d = a - (a.floor : Rat) := ⟨_, rfl⟩
  rw [← hd] at D g C hc1 hc0 hbe
  obtain ⟨k0, hk0⟩ : ∃ k, k = cmpQ d 0 := ⟨_, rfl⟩
  obtain ⟨k1, hk1⟩ : ∃ k, k = cmpQ d 1 := ⟨_, rfl⟩
  rw [← hk0] at g hc0 hbe
  rw [← hk1] at C hc1
  have hmq : ∃ fl : Rat, fl = (a.floor : Rat) := ⟨_, rfl⟩
  obtain ⟨fl, hfl⟩ := hmq
  rw [← hfl] at D N
  simp only [pairF, Fr.enc] at hfew1 v1 F D N g O C S ⊢
  have hc1' : k1 < 0 := by omega
  by_cases hd1 : a.den = 1
  · rw [decide_eq_true hd1] at hbe S
    simp [lf10, vc_regionW, hfew1, v1, F, o1, N, D, g, O, C, S, hc0, hc1', hbe, aw, fillS, Tl3_mu, Tl3_fns]
    refine ⟨[], ?_⟩
    simp [hfew1, v1, F, o1, N, D, g, O, C, S, hc0, hc1', hbe, aw, fillS, Tl3_mu, Tl3_fns]
    exact fun k hk => by match k, hk with | 0, _ => rfl | 1, _ => rfl | 2, _ => rfl
  · rw [decide_eq_false hd1] at hbe S
    simp [lf10, vc_regionW, hfew1, v1, F, o1, N, D, g, O, C, S, hc0, hc1', hbe, aw, fillS, Tl3_mu, Tl3_fns]
    refine ⟨[], ?_⟩
    simp [hfew1, v1, F, o1, N, D, g, O, C, S, hc0, hc1', hbe, aw, fillS, Tl3_mu, Tl3_fns]
    exact fun k hk => by match k, hk with | 0, _ => rfl | 1, _ => rfl | 2, _ => rfl
/-- Ints in their range. -/
def sLwI : List PVal → Option PVal
  | [.int .i64 n, .int .i64 d] => if (-9223372036854775808 ≤ n ∧ n < 9223372036854775808) ∧ (-9223372036854775808 ≤ d ∧ d < 9223372036854775808) then some (.bool true) else none
  | _ => none
theorem divInt_mul {n d : Int} (h : d ≠ 0) : Rat.divInt n d * (d : Rat) = (n : Rat) := by
  rw [Rat.divInt_eq_div]
  exact Rat.div_mul_cancel fun e => h (Rat.intCast_eq_zero_iff.1 e)
theorem ints_ok : FnOk Tryz.prog base2 11 (pureS sLwI) := by
  refine pure_of_vc hmix Tl3_ok globNone low11 fun args z hs hf => ?_
  unfold sLwI at hs
  split at hs
  case h_2 => cases hs
  rename_i n d
  split at hs
  case isFalse => cases hs
  rename_i hc
  obtain ⟨hn, hd⟩ := hc
  cases hs
  refine ⟨by simp [lf11], ?_⟩
  have aw := sAwake3_nil
  have O := sQOf_at hn hd
  have ln := zl_int hn.1 hn.2
  have ld := zl_int hd.1 hd.2
  have hS1 : Sm 1 (Rat.divInt n d) := Sm_divInt ln ld (by omega)
  have hS : Sm 64 (Rat.divInt n d) := Sm_mono hS1 (by omega)
  have v1 := vQ hS
  have g := signP_num hS
  by_cases h0 : d = 0
  · subst h0
    rw [Rat.divInt_zero] at O v1 g
    rw [cmpQ_eq] at g
    simp only [Fr.enc] at O v1 g ⊢
    simp [lf11, O, v1, g, aw, fillS, Tl3_mu, Tl3_fns]
  · have hb : (d == 0) = false := beq_false_of_ne h0
    have o1 := sIOf_one
    have o0 : sIOf [.int .i64 0] = some (iN 0) := sIOf_at (by decide) (by decide)
    have od := sIOf_at hd.1 hd.2
    have on := sIOf_at hn.1 hn.2
    have Nd := newQ_num (z := d) (by omega)
    have Nn := newQ_num (z := n) (by omega)
    have N0 := sNew_zero n
    have hSd : Sm 1 (d : Rat) := Sm_int (show len d.natAbs ≤ 1 from ld) (by omega)
    have hSn : Sm 1 (n : Rat) := Sm_int (show len n.natAbs ≤ 1 from ln) (by omega)
    have M := mulP_num hS (Sm_mono hSd (by omega)) (by rw [divInt_mul h0]; exact Sm_mono hSn (by omega))
    rw [divInt_mul h0] at M
    have e1 := sameP_self (n : Rat)
    obtain ⟨p, hp⟩ : ∃ p, p = Rat.divInt n d := ⟨_, rfl⟩
    rw [← hp] at O v1 M
    obtain ⟨dq, hdq⟩ : ∃ x, x = (d : Rat) := ⟨_, rfl⟩
    obtain ⟨nq, hnq⟩ : ∃ x, x = (n : Rat) := ⟨_, rfl⟩
    rw [← hdq] at Nd M
    rw [← hnq] at Nn M e1
    simp only [pairF, Fr.enc, zF, List.map_nil] at O v1 M Nd Nn N0 e1 ⊢
    simp [lf11, O, v1, h0, hb, o1, o0, od, on, Nd, Nn, N0, M, e1, aw, fillS, Tl3_mu, Tl3_fns]
end Go.Proofs.YtoechbpjfkabmaaGreatDoor
