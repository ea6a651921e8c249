/-
  WholeInts answers true on all values. No conditions.
-/
import Derived.Test.YtjjpfffclcofnaaGreatDoorWholeIC
import Derived.Test.YtjjpfffclcofnaaGreatDoorWholeD
set_option linter.unusedSimpArgs false
set_option linter.unusedVariables false
set_option linter.constructorNameAsVariable false

/-
  WholeInts answers true.
-/
namespace Go.Proofs.YtjjpfffclcofnaaGreatDoor
open Go Go.Abs Go.Limbs
variable {base : Prot}
set_option maxRecDepth 20000
attribute [local irreducible] vc
attribute [local simp] pureS touchV freezeL fuel shiftV u64 au

def sLawRR : List PVal → Option PVal
  | [.int .i64 a, .int .i64 b] => if (-9223372036854775808 ≤ a ∧ a < 9223372036854775808) ∧ (-9223372036854775808 ≤ b ∧ b < 9223372036854775808) then some (.bool true) else none
  | _ => none
theorem sLawRR_at {a b : Int} (ha : -9223372036854775808 ≤ a ∧ a < 9223372036854775808) (hb : -9223372036854775808 ≤ b ∧ b < 9223372036854775808) : sLawRR [.int .i64 a, .int .i64 b] = some (.bool true) := if_pos ⟨ha, hb⟩

def Tin : Tab := (Tl2.with 60 (pureS sIOf)).with 61 (pureS sICmp)
theorem Tin_ok : TabOk Tryz.prog base2 Tin := Tab.with_ok (Tab.with_ok Tl2_ok riof_ok) ricmpi_ok
theorem Tin_mu (f : FuncId) (a : List AVal) (H : Heap) : Tin.mu f a H = none := (rfl)
theorem Tin_fns : Tin.fn 60 = pureS sIOf ∧ Tin.fn 61 = pureS sICmp ∧ Tin.fn 43 = pureS sAwake ∧ Tin.fn 64 = pureS sIOf ∧ Tin.fn 58 = pureS sIVal ∧ Tin.fn 45 = pureS sIAdd ∧ Tin.fn 49 = pureS sISign ∧
  Tin.fn 44 = pureS sICmp ∧ Tin.fn 42 = pureS sIV ∧ Tin.fn 46 = pureS sISub ∧ Tin.fn 51 = pureS sIMul := ⟨rfl, rfl, rfl, rfl, rfl, rfl, rfl, rfl, rfl, rfl, rfl⟩

theorem small_zl {z : Int} (h : -9223372036854775808 ≤ z ∧ z < 9223372036854775808) : zl z ≤ 64 := Nat.le_trans (zl_small (by rw [B_lit]; omega)) (by decide)

set_option maxHeartbeats 8000000 in
theorem wints_ok : FnOk Tryz.prog base2 14 (pureS sLawRR) := by
  refine pure_of_vc hmix Tin_ok globNone low14 fun args x hs hf => ?_
  unfold sLawRR at hs
  split at hs
  case h_2 => cases hs
  rename_i a b
  split at hs
  case isFalse => cases hs
  rename_i hc
  obtain ⟨ha, hb⟩ := hc
  cases hs
  refine ⟨by simp [lf14], ?_⟩
  have aw := sAwake_nil
  have za := small_zl ha
  have zb := small_zl hb
  have o1 := sIOf_at ha.1 ha.2
  have o2 := sIOf_at hb.1 hb.2
  have o3 := sIOf_at (n := 0) (by decide) (by decide)
  have v1 := cIVal ha za
  have i1 := cIV za
  have g1 := cISign za
  have c1 := cICmp (w := 0) za (small_zl (by decide))
  have e0 : cmpZ a 0 = sgnZ a := rfl
  rw [e0] at c1
  obtain ⟨sg, hsg⟩ : ∃ t, t = sgnZ a := ⟨_, rfl⟩
  rw [← hsg] at c1 g1
  obtain ⟨s1, l1, e1⟩ := iN_ex a
  obtain ⟨s2, l2, e2⟩ := iN_ex b
  rw [iN_zero] at o3 c1
  by_cases a1 : 2147483648 < a
  · rw [e1] at o1 v1 i1 g1 c1
    rw [e2] at o2
    simp [lf14, a1, aw, o1, o2, o3, v1, i1, g1, c1, fillS, Tin_mu, Tin_fns]
  by_cases a2 : a < -2147483648
  · rw [e1] at o1 v1 i1 g1 c1
    rw [e2] at o2
    simp [lf14, a1, a2, aw, o1, o2, o3, v1, i1, g1, c1, fillS, Tin_mu, Tin_fns]
  by_cases b1 : 2147483648 < b
  · rw [e1] at o1 v1 i1 g1 c1
    rw [e2] at o2
    simp [lf14, a1, a2, b1, aw, o1, o2, o3, v1, i1, g1, c1, fillS, Tin_mu, Tin_fns]
  by_cases b2 : b < -2147483648
  · rw [e1] at o1 v1 i1 g1 c1
    rw [e2] at o2
    simp [lf14, a1, a2, b1, b2, aw, o1, o2, o3, v1, i1, g1, c1, fillS, Tin_mu, Tin_fns]
  have hm : (a * b).natAbs ≤ 2147483648 * 2147483648 := by
    rw [Int.natAbs_mul]
    exact Nat.mul_le_mul (by omega) (by omega)
  obtain ⟨p, hp⟩ : ∃ t, t = a + b := ⟨_, rfl⟩
  obtain ⟨q, hq⟩ : ∃ t, t = a - b := ⟨_, rfl⟩
  obtain ⟨m, hmm⟩ : ∃ t, t = a * b := ⟨_, rfl⟩
  rw [← hmm] at hm
  have rp : -9223372036854775808 ≤ p ∧ p < 9223372036854775808 := by omega
  have rq : -9223372036854775808 ≤ q ∧ q < 9223372036854775808 := by omega
  have rm : -9223372036854775808 ≤ m ∧ m < 9223372036854775808 := by omega
  have w1 : IntKind.i64.wrap (a + b) = p := by rw [← hp]; exact IntWalk.i64_in _ (by omega)
  have w2 : IntKind.i64.wrap (a - b) = q := by rw [← hq]; exact IntWalk.i64_in _ (by omega)
  have w3 : IntKind.i64.wrap (a * b) = m := by rw [← hmm]; exact IntWalk.i64_in _ (by omega)
  have h1 := cIAdd (z := a) (w := b) (v := p) za zb hp.symm (small_zl rp)
  have h2 := cISub (z := a) (w := b) (v := q) za zb hq.symm (small_zl rq)
  have h3 := cIMul (z := a) (w := b) (v := m) za zb hmm.symm (small_zl rm)
  have v2 := cIVal rp (small_zl rp)
  have v3 := cIVal rq (small_zl rq)
  have v4 := cIVal rm (small_zl rm)
  have c2 := cICmp za zb
  obtain ⟨s3, l3, e3⟩ := iN_ex p
  obtain ⟨s4, l4, e4⟩ := iN_ex q
  obtain ⟨s5, l5, e5⟩ := iN_ex m
  rw [e1] at o1 v1 i1 g1 c1
  rw [e2] at o2
  rw [e1, e2] at h1 h2 h3 c2
  rw [e3] at h1 v2
  rw [e4] at h2 v3
  rw [e5] at h3 v4
  rcases Int.lt_trichotomy a b with h | h | h
  · have hn : ¬ b < a := by omega
    rw [show cmpZ a b = -1 from if_pos h] at c2
    simp [lf14, a1, a2, b1, b2, h, hn, aw, o1, o2, o3, v1, i1, g1, c1, w1, w2, w3, h1, h2, h3, v2, v3, v4, c2, fillS, Tin_mu, Tin_fns]
  · have hn : ¬ b < a := by omega
    have hn2 : ¬ a < b := by omega
    rw [show cmpZ a b = 0 from by unfold cmpZ; rw [if_neg hn2, if_pos h]] at c2
    simp [lf14, a1, a2, b1, b2, hn, hn2, aw, o1, o2, o3, v1, i1, g1, c1, w1, w2, w3, h1, h2, h3, v2, v3, v4, c2, fillS, Tin_mu, Tin_fns]
  · have hn2 : ¬ a < b := by omega
    rw [show cmpZ a b = 1 from by unfold cmpZ; rw [if_neg hn2, if_neg (by omega)]] at c2
    simp [lf14, a1, a2, b1, b2, h, hn2, aw, o1, o2, o3, v1, i1, g1, c1, w1, w2, w3, h1, h2, h3, v2, v3, v4, c2, fillS, Tin_mu, Tin_fns]
end Go.Proofs.YtjjpfffclcofnaaGreatDoor
