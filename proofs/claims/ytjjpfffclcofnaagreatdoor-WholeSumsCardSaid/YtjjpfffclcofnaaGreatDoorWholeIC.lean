/-
  WholeOrder answers true on all values. No conditions.
-/
import Derived.Test.YtjjpfffclcofnaaGreatDoorWholeIB
set_option linter.unusedSimpArgs false
set_option linter.unusedVariables false
set_option linter.constructorNameAsVariable false

/-
  WholeOrder answers true.
-/
namespace Go.Proofs.YtjjpfffclcofnaaGreatDoor
open Go Go.Abs Go.Limbs
variable {base : Prot}
set_option maxRecDepth 20000
attribute [local irreducible] vc
attribute [local simp] pureS touchV freezeL fuel shiftV u64 au

theorem okI_iN {s : Bool} {l : List Nat} (h : okI s l = true) : ∃ z : Int, zl z ≤ 64 ∧ iN z = .agg [.bool s, .lst (l.map u64)] ∧ zl z = l.length := by
  obtain ⟨z, hz, rfl, rfl⟩ := okI_of h
  exact ⟨z, hz, rfl, rfl⟩
theorem iN_ex (z : Int) : ∃ (s : Bool) (l : List Nat), iN z = .agg [.bool s, .lst (l.map u64)] := ⟨_, _, rfl⟩
theorem zl_add (z w : Int) : zl (z + w) ≤ max (zl z) (zl w) + 1 := Nat.le_trans (len_mono (Int.natAbs_add_le z w)) (len_add _ _)
theorem zl_neg (z : Int) : zl (-z) = zl z := by unfold zl; rw [Int.natAbs_neg]
theorem zl_sub (z w : Int) : zl (z - w) ≤ max (zl z) (zl w) + 1 := by
  rw [Int.sub_eq_add_neg]
  have := zl_add z (-w)
  rw [zl_neg] at this
  exact this
theorem zl_mul (z w : Int) : zl (z * w) ≤ zl z + zl w := by
  unfold zl
  rw [Int.natAbs_mul]
  exact len_mul _ _

def Tl2 : Tab := (Ta2.with 43 (pureS sAwake)).with 54 (pureS sIFew)
theorem Tl2_ok : TabOk Tryz.prog base2 Tl2 := Tab.with_ok (Tab.with_ok Ta2_ok awake2_ok) ifew_ok
theorem Tl2_mu (f : FuncId) (a : List AVal) (H : Heap) : Tl2.mu f a H = none := (rfl)
theorem Tl2_fns : Tl2.fn 43 = pureS sAwake ∧ Tl2.fn 54 = pureS sIFew ∧ Tl2.fn 64 = pureS sIOf ∧ Tl2.fn 58 = pureS sIVal ∧ Tl2.fn 45 = pureS sIAdd ∧ Tl2.fn 49 = pureS sISign ∧ Tl2.fn 48 = pureS sINeg ∧
  Tl2.fn 44 = pureS sICmp ∧ Tl2.fn 42 = pureS sIV ∧ Tl2.fn 47 = pureS sSameI ∧ Tl2.fn 46 = pureS sISub ∧ Tl2.fn 51 = pureS sIMul := ⟨rfl, rfl, rfl, rfl, rfl, rfl, rfl, rfl, rfl, rfl, rfl, rfl⟩

def sLawZ3 : List PVal → Option PVal
  | [.agg [.bool _, .lst xs], .agg [.bool _, .lst ys], .agg [.bool _, .lst zs]] => match decU xs, decU ys, decU zs with | some _, some _, some _ => some (.bool true) | _, _, _ => none
  | _ => none
theorem sLawZ3_list {s t r : Bool} {a b c : List Nat} (ha : Wf a) (hb : Wf b) (hc : Wf c) : sLawZ3 [.agg [.bool s, .lst (a.map u64)], .agg [.bool t, .lst (b.map u64)], .agg [.bool r, .lst (c.map u64)]] = some (.bool true) := by simp only [sLawZ3, decU_map ha, decU_map hb, decU_map hc]

set_option maxHeartbeats 4000000 in
theorem worder_ok : FnOk Tryz.prog base2 11 (pureS sLawZ3) := by
  refine pure_of_vc hmix Tl2_ok globNone low11 fun args x hs hf => ?_
  unfold sLawZ3 at hs
  split at hs
  case h_2 => cases hs
  rename_i s xs t ys r zs
  split at hs
  case h_2 => cases hs
  rename_i a b c ha hb hc
  obtain ⟨rfl, wa⟩ := decU_some ha
  obtain ⟨rfl, wb⟩ := decU_some hb
  obtain ⟨rfl, wc⟩ := decU_some hc
  cases hs
  refine ⟨by simp [lf11], ?_⟩
  have aw := sAwake_nil
  have va := sIV_list (s := s) wa
  have vb := sIV_list (s := t) wb
  have vc := sIV_list (s := r) wc
  by_cases la : a.length ≤ 8
  case neg =>
    have la' : (8 : Int) < a.length := by omega
    simp [lf11, la, la', aw, Tl2_mu, Tl2_fns]
  have la' : ¬ (8 : Int) < a.length := by omega
  by_cases lb : b.length ≤ 8
  case neg =>
    have lb' : (8 : Int) < b.length := by omega
    simp [lf11, la, la', lb, lb', aw, Tl2_mu, Tl2_fns]
  have lb' : ¬ (8 : Int) < b.length := by omega
  by_cases lc : c.length ≤ 8
  case neg =>
    have lc' : (8 : Int) < c.length := by omega
    simp [lf11, la, la', lb, lb', lc, lc', aw, Tl2_mu, Tl2_fns]
  have lc' : ¬ (8 : Int) < c.length := by omega
  cases oa : okI s a with
  | false => rw [oa] at va; simp [lf11, la, la', lb, lb', lc, lc', va, aw, Tl2_mu, Tl2_fns]
  | true =>
  rw [oa] at va
  cases ob : okI t b with
  | false => rw [ob] at vb; simp [lf11, la, la', lb, lb', lc, lc', va, vb, aw, Tl2_mu, Tl2_fns]
  | true =>
  rw [ob] at vb
  cases oc : okI r c with
  | false => rw [oc] at vc; simp [lf11, la, la', lb, lb', lc, lc', va, vb, vc, aw, Tl2_mu, Tl2_fns]
  | true =>
  rw [oc] at vc
  obtain ⟨z, hz, ez, lz⟩ := okI_iN oa
  obtain ⟨w, hw, ew, lw⟩ := okI_iN ob
  obtain ⟨v, hv, ev, lv⟩ := okI_iN oc
  have k1 := zl_add z v
  have k2 := zl_add w v
  have k3 := zl_sub z w
  have n1 := zl_neg z
  have n2 := zl_neg w
  have h1 := cICmp hz hw
  have h2 := cICmp hw hz
  have h3 := cIAdd (z := z) (w := v) (v := z + v) hz hv rfl (by omega)
  have h4 := cIAdd (z := w) (w := v) (v := w + v) hw hv rfl (by omega)
  have h5 := cISub (z := z) (w := w) (v := z - w) hz hw rfl (by omega)
  have h6 := cINeg (z := z) (v := -z) hz rfl
  have h7 := cINeg (z := w) (v := -w) hw rfl
  have h8 := cICmp (z := -z) (w := -w) (by omega) (by omega)
  have h9 := cICmp (z := z + v) (w := w + v) (by omega) (by omega)
  have h10 := cISign (z := z - w) (by omega)
  have h11 := cISame z w
  obtain ⟨s1, l1, e1⟩ := iN_ex (z + v)
  obtain ⟨s2, l2, e2⟩ := iN_ex (w + v)
  obtain ⟨s3, l3, e3⟩ := iN_ex (z - w)
  obtain ⟨s4, l4, e4⟩ := iN_ex (-z)
  obtain ⟨s5, l5, e5⟩ := iN_ex (-w)
  have wr0 : IntKind.i64.wrap 0 = 0 := rfl
  have wr1 : IntKind.i64.wrap 1 = 1 := rfl
  have wrm : IntKind.i64.wrap (-1) = -1 := rfl
  have hcases : (cmpZ z w = -1 ∧ cmpZ w z = 1 ∧ cmpZ (-z) (-w) = 1 ∧ cmpZ (z + v) (w + v) = -1 ∧ sgnZ (z - w) = -1 ∧ decide (z = w) = false) ∨ (cmpZ z w = 0 ∧ cmpZ w z = 0 ∧ cmpZ (-z) (-w) = 0 ∧ cmpZ (z + v) (w + v) = 0 ∧ sgnZ (z - w) = 0 ∧ decide (z = w) = true) ∨
      (cmpZ z w = 1 ∧ cmpZ w z = -1 ∧ cmpZ (-z) (-w) = -1 ∧ cmpZ (z + v) (w + v) = 1 ∧ sgnZ (z - w) = 1 ∧ decide (z = w) = false) := by
    unfold cmpZ sgnZ
    rcases Int.lt_trichotomy z w with h | h | h
    · left
      refine ⟨if_pos h, ?_, ?_, if_pos (by omega), if_pos (by omega), decide_eq_false (by omega)⟩
      · rw [if_neg (by omega), if_neg (by omega)]
      · rw [if_neg (by omega), if_neg (by omega)]
    · right; left
      subst h
      refine ⟨?_, ?_, ?_, ?_, ?_, decide_eq_true rfl⟩ <;> rw [if_neg (by omega), if_pos (by omega)]
    · right; right
      refine ⟨?_, if_pos h, if_pos (by omega), ?_, ?_, decide_eq_false (by omega)⟩ <;> rw [if_neg (by omega), if_neg (by omega)]
  rw [ez, ew] at h1 h2 h11
  rw [ez, ev, e1] at h3
  rw [ew, ev, e2] at h4
  rw [ez, ew, e3] at h5
  rw [ez, e4] at h6
  rw [ew, e5] at h7
  rw [e4, e5] at h8
  rw [e1, e2] at h9
  rw [e3] at h10
  rcases hcases with ⟨g1, g2, g3, g4, g5, g6⟩ | ⟨g1, g2, g3, g4, g5, g6⟩ | ⟨g1, g2, g3, g4, g5, g6⟩
  all_goals
    rw [g1] at h1
    rw [g2] at h2
    rw [g3] at h8
    rw [g4] at h9
    rw [g5] at h10
    rw [g6] at h11
    simp [lf11, la, la', lb, lb', lc, lc', va, vb, vc, aw, h1, h2, h3, h4, h5, h6, h7, h8, h9, h10, h11, wr0, wr1, wrm, fillS, Tl2_mu, Tl2_fns]
end Go.Proofs.YtjjpfffclcofnaaGreatDoor
