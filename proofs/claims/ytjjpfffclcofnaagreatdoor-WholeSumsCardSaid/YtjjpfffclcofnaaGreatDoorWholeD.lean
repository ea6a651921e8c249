/-
  What the reference's functions of whole numbers compute. No conditions beyond the lemmas' own hypotheses.
-/
import Derived.Test.YtjjpfffclcofnaaGreatDoorWholeIB
import Derived.Test.YtjjpfffclcofnaaGreatDoorRefO
set_option linter.unusedSimpArgs false
set_option linter.unusedVariables false
set_option linter.constructorNameAsVariable false

/-
  The reference's whole numbers.
-/
namespace Go.Proofs.YtjjpfffclcofnaaGreatDoor
open Go Go.Abs Go.Limbs
variable {base : Prot}
set_option maxRecDepth 20000
attribute [local irreducible] vc
attribute [local simp] pureS touchV freezeL fuel shiftV u64 au

def Rv : Tab := Tab.none.with 31 (pureS sValid)
theorem Rv_ok : TabOk Tryz.prog base Rv := Tab.with_ok Tab.none_ok rvalid_ok
theorem Rv_mu (f : FuncId) (a : List AVal) (H : Heap) : Rv.mu f a H = none := (rfl)
theorem Rv_fn : Rv.fn 31 = pureS sValid := (rfl)
theorem rivalid_ok : FnOk Tryz.prog base 63 (pureS sIV) := by
  refine pure_of_vc hmix Rv_ok globNone low63 fun args z hs hf => ?_
  unfold sIV at hs
  split at hs
  case h_2 => cases hs
  rename_i s xs
  split at hs
  case h_2 => cases hs
  rename_i l hd
  obtain ⟨rfl, wl⟩ := decU_some hd
  cases hs
  refine ⟨by simp [lf63], ?_⟩
  have hv := sValid_list wl
  unfold okI
  cases ho : okL l with
  | false => rw [ho] at hv; simp [lf63, hv, Rv_mu, Rv_fn]
  | true =>
    rw [ho] at hv
    cases s with
    | false => simp [lf63, hv, Rv_mu, Rv_fn]
    | true => simp [lf63, hv, Rv_mu, Rv_fn]

theorem riwide_ok : FnOk Tryz.prog base 108 (pureS sWide) := by
  refine pure_of_vc hmix Tab.none_ok globNone low108 fun args z hs hf => ?_
  unfold sWide at hs
  split at hs
  case h_2 => cases hs
  rename_i s xs
  split at hs
  case h_2 => cases hs
  rename_i l hd
  obtain ⟨rfl, wl⟩ := decU_some hd
  cases hs
  refine ⟨by simp [lf108], ?_⟩
  cases s with
  | false => simp [lf108, iP, fillS]
  | true => simp [lf108, iP, fillS]


def Ro : Tab := ((((Tab.none.with 84 (pureS sOrder)).with 81 (pureS sPlus)).with 85 (pureS sMinus)).with 87 (pureS sTimes)).with 108 (pureS sWide)
theorem Ro_ok : TabOk Tryz.prog base Ro := Tab.with_ok (Tab.with_ok (Tab.with_ok (Tab.with_ok (Tab.with_ok Tab.none_ok rcmp_ok) radd_ok) rsub_ok) rmul_ok) riwide_ok
theorem Ro_mu (f : FuncId) (a : List AVal) (H : Heap) : Ro.mu f a H = none := (rfl)
theorem Ro_fns : Ro.fn 84 = pureS sOrder ∧ Ro.fn 81 = pureS sPlus ∧ Ro.fn 85 = pureS sMinus ∧ Ro.fn 87 = pureS sTimes ∧ Ro.fn 108 = pureS sWide := ⟨rfl, rfl, rfl, rfl, rfl⟩

theorem ricmp_ok : FnOk Tryz.prog base 109 (pureS sWOrd) := by
  refine pure_of_vc hmix Ro_ok globNone low109 fun args z hs hf => ?_
  unfold sWOrd at hs
  split at hs
  case h_2 => cases hs
  rename_i s xs t ys
  split at hs
  case h_2 => cases hs
  rename_i z w hz hw
  cases hs
  obtain ⟨lz, rfl, rfl⟩ := decZ_some hz
  obtain ⟨lw, rfl, rfl⟩ := decZ_some hw
  refine ⟨by simp [lf109], ?_⟩
  have h1 := sOrder_num lz lw
  by_cases hz0 : z < 0
  · by_cases hw0 : w < 0
    · have hn : cmpZ z w = -cmpI z.natAbs w.natAbs := by
        unfold cmpI cmpZ
        by_cases h : z < w
        · rw [if_pos h, if_neg (by omega), if_neg (by omega)]
        · rw [if_neg h]
          by_cases h2 : z = w
          · rw [if_pos h2, if_neg (by omega), if_pos (by omega)]; rfl
          · rw [if_neg h2, if_pos (by omega)]; rfl
      have hcc : cmpI z.natAbs w.natAbs = -1 ∨ cmpI z.natAbs w.natAbs = 0 ∨ cmpI z.natAbs w.natAbs = 1 := by
        unfold cmpI
        split
        · exact .inl rfl
        · split
          · exact .inr (.inl rfl)
          · exact .inr (.inr rfl)
      obtain ⟨c, hc⟩ : ∃ c, c = cmpI z.natAbs w.natAbs := ⟨_, rfl⟩
      rw [← hc] at h1 hn hcc
      have hw' : IntKind.i64.wrap (-c) = -c := IntWalk.i64_in _ (by omega)
      simp [lf109, hz0, hw0, h1, hn, hw', Ro_mu, Ro_fns]
    · have : cmpZ z w = -1 := if_pos (by omega)
      simp [lf109, hz0, hw0, this, Ro_mu, Ro_fns]
  · by_cases hw0 : w < 0
    · have : cmpZ z w = 1 := by unfold cmpZ; rw [if_neg (by omega), if_neg (by omega)]
      simp [lf109, hz0, hw0, this, Ro_mu, Ro_fns]
    · rw [cmpZ_pos hz0 hw0] at h1
      simp [lf109, hz0, hw0, h1, Ro_mu, Ro_fns]

theorem riadd_ok : FnOk Tryz.prog base 107 (pureS sWPlus) := by
  refine pure_of_vc hmix Ro_ok globNone low107 fun args z hs hf => ?_
  unfold sWPlus at hs
  split at hs
  case h_2 => cases hs
  rename_i s xs t ys
  split at hs
  case h_2 => cases hs
  rename_i z w hz hw
  cases hs
  obtain ⟨lz, rfl, rfl⟩ := decZ_some hz
  obtain ⟨lw, rfl, rfl⟩ := decZ_some hw
  refine ⟨by simp [lf107], ?_⟩
  unfold zl at lz lw
  obtain ⟨s, hs⟩ : ∃ s, s = decide (z < 0) := ⟨_, rfl⟩
  obtain ⟨t, ht⟩ : ∃ t, t = decide (w < 0) := ⟨_, rfl⟩
  obtain ⟨m, hm⟩ : ∃ m, m = z.natAbs := ⟨_, rfl⟩
  obtain ⟨n, hn⟩ : ∃ n, n = w.natAbs := ⟨_, rfl⟩
  have e1 := @zOf_same z w
  have e2 := @zOf_less z w
  have e3 := @zOf_more z w
  rw [← hm, ← hn, ← hs, ← ht] at e1 e2 e3
  rw [← hm] at lz
  rw [← hn] at lw
  rw [← hs, ← ht, ← hm, ← hn]
  have hP := sPlus_num lz lw
  have hO := sOrder_num lz lw
  by_cases hst : s = t
  · obtain ⟨b, l, hbl, wl, hW⟩ := sWide_num s (m + n)
    rw [← e1 hst, hbl]
    have hbe : (s == t) = true := by simp [hst]
    obtain ⟨p, hp⟩ : ∃ p, p = m + n := ⟨_, rfl⟩
    rw [← hp] at hP hW
    simp [lf107, hbe, vc_regionW, iP, Ro_mu, Ro_fns]
    refine ⟨[], ?_⟩
    simp [hP, hW, Ro_mu, Ro_fns]
  · have hbe : (s == t) = false := by simp [hst]
    by_cases hlt : m < n
    · obtain ⟨b, l, hbl, wl, hW⟩ := sWide_num t (n - m)
      rw [← e2 hst hlt, hbl]
      rw [cmpI_lt hlt] at hO
      have hM := sMinus_num lw lz (Nat.le_of_lt hlt)
      obtain ⟨p, hp⟩ : ∃ p, p = n - m := ⟨_, rfl⟩
      rw [← hp] at hM hW
      simp [lf107, hbe, hO, vc_regionW, iP, Ro_mu, Ro_fns]
      refine ⟨[], ?_⟩
      simp [hM, hW, Ro_mu, Ro_fns]
    · obtain ⟨b, l, hbl, wl, hW⟩ := sWide_num s (m - n)
      rw [← e3 hst (by omega), hbl]
      have hcn : ¬ cmpI m n < 0 := fun h => by have := cmpI_neg.1 h; omega
      have hcp : (0 : Int) ≤ cmpI m n := by omega
      obtain ⟨c, hc⟩ : ∃ c, c = cmpI m n := ⟨_, rfl⟩
      rw [← hc] at hO hcn hcp
      have hM := sMinus_num lz lw (by omega)
      obtain ⟨p, hp⟩ : ∃ p, p = m - n := ⟨_, rfl⟩
      rw [← hp] at hM hW
      simp [lf107, hbe, hO, hcn, hcp, vc_regionW, iP, Ro_mu, Ro_fns]
      refine ⟨[], ?_⟩
      simp [hM, hW, Ro_mu, Ro_fns]

theorem rifits_ok : FnOk Tryz.prog base 106 (pureS sIHeld) := by
  refine pure_of_vc hmix Tab.none_ok globNone low106 fun args z hs hf => ?_
  unfold sIHeld at hs
  split at hs
  case h_2 => cases hs
  rename_i s xs
  split at hs
  case h_2 => cases hs
  rename_i l hd
  obtain ⟨rfl, wl⟩ := decU_some hd
  cases hs
  refine ⟨by simp [lf106], ?_⟩
  by_cases h : l.length ≤ 64
  · have h' : ¬ (64 : Int) < l.length := by omega
    simp [lf106, h, h', iP, fillS]
  · have h' : (64 : Int) < l.length := by omega
    simp [lf106, h, h', iP, fillS]


def Rio : Tab := ((((((Tab.none.with 63 (pureS sIV)).with 109 (pureS sWOrd)).with 107 (pureS sWPlus)).with 87 (pureS sTimes)).with 106 (pureS sIHeld)).with 108 (pureS sWide))
theorem Rio_ok : TabOk Tryz.prog base Rio := Tab.with_ok (Tab.with_ok (Tab.with_ok (Tab.with_ok (Tab.with_ok (Tab.with_ok Tab.none_ok rivalid_ok) ricmp_ok) riadd_ok) rmul_ok) rifits_ok) riwide_ok
theorem Rio_mu (f : FuncId) (a : List AVal) (H : Heap) : Rio.mu f a H = none := (rfl)
theorem Rio_fns : Rio.fn 63 = pureS sIV ∧ Rio.fn 109 = pureS sWOrd ∧ Rio.fn 107 = pureS sWPlus ∧ Rio.fn 87 = pureS sTimes ∧ Rio.fn 106 = pureS sIHeld ∧ Rio.fn 108 = pureS sWide := ⟨rfl, rfl, rfl, rfl, rfl, rfl⟩

theorem riaddi_ok : FnOk Tryz.prog base 55 (pureS sIAdd) := by
  refine pure_of_vc hmix Rio_ok globNone low55 fun args z hs hf => ?_
  unfold sIAdd at hs
  split at hs
  case h_2 => cases hs
  rename_i s xs t ys
  split at hs
  case h_2 => cases hs
  rename_i a b ha hb
  obtain ⟨rfl, wa⟩ := decU_some ha
  obtain ⟨rfl, wb⟩ := decU_some hb
  cases hs
  refine ⟨by simp [lf55], ?_⟩
  have va := sIV_list (s := s) wa
  have vb := sIV_list (s := t) wb
  cases oa : okI s a with
  | false => rw [oa] at va; simp [lf55, va, iP, fillS, Rio_mu, Rio_fns]
  | true =>
    rw [oa] at va
    cases ob : okI t b with
    | false => rw [ob] at vb; simp [lf55, va, vb, iP, fillS, Rio_mu, Rio_fns]
    | true =>
      rw [ob] at vb
      obtain ⟨z, lz, rfl, rfl⟩ := okI_of oa
      obtain ⟨w, lw, rfl, rfl⟩ := okI_of ob
      rw [zL_num, zL_num]
      have kz : zl z ≤ 100000 := by omega
      have kw : zl w ≤ 100000 := by omega
      have h1 := sWPlus_num kz kw
      have h2 := sIHeld_num (z + w)
      obtain ⟨b, l, hbl, wl⟩ := hN_case (z + w)
      rw [hbl] at h2 ⊢
      obtain ⟨e, he⟩ : ∃ e, e = hE (z + w) := ⟨_, rfl⟩
      rw [← he] at h2 ⊢
      obtain ⟨q, hq⟩ : ∃ q, q = z + w := ⟨_, rfl⟩
      rw [← hq] at h1 h2
      simp only [iN_case, iP] at h1 h2 ⊢
      simp [lf55, va, vb, h1, h2, fillS, Rio_mu, Rio_fns]

theorem ricmpi_ok : FnOk Tryz.prog base 61 (pureS sICmp) := by
  refine pure_of_vc hmix Rio_ok globNone low61 fun args z hs hf => ?_
  unfold sICmp at hs
  split at hs
  case h_2 => cases hs
  rename_i s xs t ys
  split at hs
  case h_2 => cases hs
  rename_i a b ha hb
  obtain ⟨rfl, wa⟩ := decU_some ha
  obtain ⟨rfl, wb⟩ := decU_some hb
  cases hs
  refine ⟨by simp [lf61], ?_⟩
  have va := sIV_list (s := s) wa
  have vb := sIV_list (s := t) wb
  cases oa : okI s a with
  | false => rw [oa] at va; simp [lf61, va, iP, fillS, Rio_mu, Rio_fns]
  | true =>
    rw [oa] at va
    cases ob : okI t b with
    | false => rw [ob] at vb; simp [lf61, va, vb, iP, fillS, Rio_mu, Rio_fns]
    | true =>
      rw [ob] at vb
      obtain ⟨z, lz, rfl, rfl⟩ := okI_of oa
      obtain ⟨w, lw, rfl, rfl⟩ := okI_of ob
      rw [zL_num, zL_num]
      have kz : zl z ≤ 100000 := by omega
      have kw : zl w ≤ 100000 := by omega
      have h1 := sWOrd_num kz kw
      simp only [iN_case] at h1
      simp [lf61, va, vb, h1, Rio_mu, Rio_fns]

theorem risubi_ok : FnOk Tryz.prog base 56 (pureS sISub) := by
  refine pure_of_vc hmix Rio_ok globNone low56 fun args z hs hf => ?_
  unfold sISub at hs
  split at hs
  case h_2 => cases hs
  rename_i s xs t ys
  split at hs
  case h_2 => cases hs
  rename_i a b ha hb
  obtain ⟨rfl, wa⟩ := decU_some ha
  obtain ⟨rfl, wb⟩ := decU_some hb
  cases hs
  refine ⟨by simp [lf56], ?_⟩
  have va := sIV_list (s := s) wa
  have vb := sIV_list (s := t) wb
  cases oa : okI s a with
  | false => rw [oa] at va; simp [lf56, va, iP, fillS, Rio_mu, Rio_fns]
  | true =>
    rw [oa] at va
    cases ob : okI t b with
    | false => rw [ob] at vb; simp [lf56, va, vb, iP, fillS, Rio_mu, Rio_fns]
    | true =>
      rw [ob] at vb
      obtain ⟨z, lz, rfl, rfl⟩ := okI_of oa
      obtain ⟨w, lw, rfl, rfl⟩ := okI_of ob
      rw [zL_num, zL_num]
      have kz : zl z ≤ 100000 := by omega
      have kw : zl w ≤ 100000 := by omega
      have kw' : zl (-w) ≤ 100000 := by unfold zl; rw [Int.natAbs_neg]; exact kw
      have h1 := sWPlus_num kz kw'
      have h2 := sIHeld_num (z - w)
      rw [← Int.sub_eq_add_neg] at h1
      obtain ⟨b, l, hbl, wl⟩ := hN_case (z - w)
      rw [hbl] at h2 ⊢
      obtain ⟨e, he⟩ : ∃ e, e = hE (z - w) := ⟨_, rfl⟩
      rw [← he] at h2 ⊢
      obtain ⟨q, hq⟩ : ∃ q, q = z - w := ⟨_, rfl⟩
      rw [← hq] at h1 h2
      obtain ⟨b1, l1, hbl1, wl1, hW⟩ := sWide_num (!decide (w < 0)) w.natAbs
      have ew : zOf (!decide (w < 0)) w.natAbs = -w := by
        by_cases h : w < 0
        · simp [zOf, h]; omega
        · simp [zOf, h]; omega
      rw [ew] at hbl1
      rw [hbl1] at h1
      obtain ⟨t, ht⟩ : ∃ t, t = decide (w < 0) := ⟨_, rfl⟩
      obtain ⟨k, hk⟩ : ∃ k, k = w.natAbs := ⟨_, rfl⟩
      rw [← ht, ← hk] at hW vb
      rw [← ht, ← hk]
      simp only [iN_case, iP] at h1 h2 ⊢
      simp [lf56, va, vb, vc_regionW, fillS, Rio_mu, Rio_fns]
      refine ⟨[], ?_⟩
      simp [hW, h1, h2, fillS, Rio_mu, Rio_fns]

theorem rimuli_ok : FnOk Tryz.prog base 57 (pureS sIMul) := by
  refine pure_of_vc hmix Rio_ok globNone low57 fun args z hs hf => ?_
  unfold sIMul at hs
  split at hs
  case h_2 => cases hs
  rename_i s xs t ys
  split at hs
  case h_2 => cases hs
  rename_i a b ha hb
  obtain ⟨rfl, wa⟩ := decU_some ha
  obtain ⟨rfl, wb⟩ := decU_some hb
  cases hs
  refine ⟨by simp [lf57], ?_⟩
  have va := sIV_list (s := s) wa
  have vb := sIV_list (s := t) wb
  cases oa : okI s a with
  | false => rw [oa] at va; simp [lf57, va, iP, fillS, Rio_mu, Rio_fns]
  | true =>
    rw [oa] at va
    cases ob : okI t b with
    | false => rw [ob] at vb; simp [lf57, va, vb, iP, fillS, Rio_mu, Rio_fns]
    | true =>
      rw [ob] at vb
      obtain ⟨z, lz, rfl, rfl⟩ := okI_of oa
      obtain ⟨w, lw, rfl, rfl⟩ := okI_of ob
      rw [zL_num, zL_num]
      have kz : zl z ≤ 100000 := by omega
      have kw : zl w ≤ 100000 := by omega
      have h2 := sIHeld_num (z * w)
      obtain ⟨b, l, hbl, wl⟩ := hN_case (z * w)
      rw [hbl] at h2 ⊢
      obtain ⟨e, he⟩ : ∃ e, e = hE (z * w) := ⟨_, rfl⟩
      rw [← he] at h2 ⊢
      obtain ⟨q, hq⟩ : ∃ q, q = z * w := ⟨_, rfl⟩
      have e1 := zOf_mul z w
      unfold zl at kz kw
      obtain ⟨b1, l1, hbl1, wl1, hW⟩ := sWide_num (decide (z < 0) != decide (w < 0)) (z.natAbs * w.natAbs)
      rw [e1] at hbl1
      rw [hbl1] at h2
      have hP := sTimes_num kz kw
      obtain ⟨s, hs⟩ : ∃ s, s = decide (z < 0) := ⟨_, rfl⟩
      obtain ⟨t, ht⟩ : ∃ t, t = decide (w < 0) := ⟨_, rfl⟩
      obtain ⟨m, hm⟩ : ∃ m, m = z.natAbs := ⟨_, rfl⟩
      obtain ⟨k, hk⟩ : ∃ k, k = w.natAbs := ⟨_, rfl⟩
      rw [← hs, ← ht, ← hm, ← hk] at hW
      rw [show (s != t) = (!s == t) from by cases s <;> cases t <;> rfl] at hW
      rw [← hm, ← hk] at hP
      rw [← hs, ← hm] at va
      rw [← ht, ← hk] at vb
      rw [← hs, ← ht, ← hm, ← hk]
      obtain ⟨p, hp⟩ : ∃ p, p = m * k := ⟨_, rfl⟩
      rw [← hp] at hP hW
      simp only [iP] at h2 ⊢
      simp [lf57, va, vb, vc_regionW, fillS, Rio_mu, Rio_fns]
      refine ⟨[], ?_⟩
      simp [hP, hW, h2, fillS, Rio_mu, Rio_fns]
theorem rinegi_ok : FnOk Tryz.prog base 62 (pureS sINeg) := by
  refine pure_of_vc hmix Rio_ok globNone low62 fun args z hs hf => ?_
  unfold sINeg at hs
  split at hs
  case h_2 => cases hs
  rename_i s xs
  split at hs
  case h_2 => cases hs
  rename_i a ha
  obtain ⟨rfl, wa⟩ := decU_some ha
  cases hs
  refine ⟨by simp [lf62], ?_⟩
  have hv := sIV_list (s := s) wa
  cases ho : okI s a with
  | false => rw [ho] at hv; simp [lf62, hv, iP, fillS, Rio_mu, Rio_fns]
  | true =>
    rw [ho] at hv
    obtain ⟨z, lz, rfl, rfl⟩ := okI_of ho
    rw [zL_num]
    unfold zl at lz
    obtain ⟨b, l, hbl, wl, hW⟩ := sWide_num (!decide (z < 0)) z.natAbs
    have e : zOf (!decide (z < 0)) z.natAbs = -z := by
      by_cases h : z < 0
      · simp [zOf, h]; omega
      · simp [zOf, h]; omega
    rw [e] at hbl
    rw [hbl]
    obtain ⟨s, hs⟩ : ∃ s, s = decide (z < 0) := ⟨_, rfl⟩
    obtain ⟨m, hm⟩ : ∃ m, m = z.natAbs := ⟨_, rfl⟩
    rw [← hs, ← hm] at hv hW
    rw [← hs, ← hm]
    simp [lf62, hv, hW, iP, Rio_mu, Rio_fns]


def Rvl : Tab := Tab.none.with 63 (pureS sIV)
theorem Rvl_ok : TabOk Tryz.prog base Rvl := Tab.with_ok Tab.none_ok rivalid_ok
theorem Rvl_mu (f : FuncId) (a : List AVal) (H : Heap) : Rvl.mu f a H = none := (rfl)
theorem Rvl_fn : Rvl.fn 63 = pureS sIV := (rfl)
theorem rivalue_ok : FnOk Tryz.prog base 59 (pureS sIVal) := by
  refine pure_of_vc hmix Rvl_ok globNone low59 fun args z hs hf => ?_
  unfold sIVal at hs
  split at hs
  case h_2 => cases hs
  rename_i s xs
  split at hs
  case h_2 => cases hs
  rename_i l hd
  obtain ⟨rfl, wl⟩ := decU_some hd
  cases hs
  refine ⟨by simp [lf59], ?_⟩
  have hv := sIV_list (s := s) wl
  unfold valI
  cases ho : okI s l with
  | false => rw [ho] at hv; simp [lf59, hv, Rvl_mu, Rvl_fn]
  | true =>
    rw [ho] at hv
    obtain ⟨z, lz, rfl, rfl⟩ := okI_of ho
    rw [zL_num]
    have ll : (limbs z.natAbs).length = len z.natAbs := rfl
    by_cases h1 : 1 < len z.natAbs
    · have h1' : (1 : Int) < len z.natAbs := by omega
      have hB := lt_len_iff.1 h1
      rw [Nat.pow_one, B_lit] at hB
      have hno : ¬ (-9223372036854775808 ≤ z ∧ z < 9223372036854775808) := by omega
      simp only [hno, decide_false, Bool.and_false]
      simp [lf59, hv, ll, h1, h1', Rvl_mu, Rvl_fn]
    · have h1' : ¬ (1 : Int) < len z.natAbs := by omega
      by_cases h0 : z = 0
      · subst h0
        simp [limbs_zero] at hv
        simp [lf59, hv, limbs_zero, Rvl_mu, Rvl_fn]
      · have hn0 : len z.natAbs ≠ 0 := fun e => h0 (by have h6 := len_eq_zero.1 e; omega)
        obtain ⟨e1, e2, e3⟩ := one_limb (show len z.natAbs = 1 by omega)
        obtain ⟨n, hn⟩ : ∃ n, n = z.natAbs := ⟨_, rfl⟩
        rw [← hn] at e1 e2 e3 hv ⊢
        rw [B_lit] at e2
        rw [e1] at hv ⊢
        simp at hv
        by_cases hz : z < 0
        · have w1 : IntKind.u64.wrap (-(n : Int)) = 18446744073709551616 - n := by rw [IntKind.wrap_u64]; omega
          by_cases hr : n ≤ 9223372036854775808
          · have hrI : (n : Int) ≤ 9223372036854775808 := by omega
            have w2 : IntKind.i64.wrap (18446744073709551616 - (n : Int)) = z := by rw [IntKind.wrap_i64]; omega
            have hin : -9223372036854775808 ≤ z ∧ z < 9223372036854775808 := by omega
            simp [hz] at hv
            simp [lf59, hv, hz, hr, hrI, w1, w2, hin, Rvl_mu, Rvl_fn]
          · have hrI : ¬ (n : Int) ≤ 9223372036854775808 := by omega
            have hno : ¬ (-9223372036854775808 ≤ z ∧ z < 9223372036854775808) := by omega
            simp only [hno, decide_false, Bool.and_false]
            simp [hz] at hv
            simp [lf59, hv, hz, hr, hrI, Rvl_mu, Rvl_fn]
        · by_cases hr : n < 9223372036854775808
          · have hrI : (n : Int) < 9223372036854775808 := by omega
            have w2 : IntKind.i64.wrap (n : Int) = z := by rw [IntKind.wrap_i64]; omega
            have hin : -9223372036854775808 ≤ z ∧ z < 9223372036854775808 := by omega
            simp [hz] at hv
            simp [lf59, hv, hz, hr, hrI, w2, hin, Rvl_mu, Rvl_fn]
          · have hrI : ¬ (n : Int) < 9223372036854775808 := by omega
            have hno : ¬ (-9223372036854775808 ≤ z ∧ z < 9223372036854775808) := by omega
            simp only [hno, decide_false, Bool.and_false]
            simp [hz] at hv
            simp [lf59, hv, hz, hr, hrI, Rvl_mu, Rvl_fn]


def Rof : Tab := (Tab.none.with 78 (pureS sTrim)).with 108 (pureS sWide)
theorem Rof_ok : TabOk Tryz.prog base Rof := Tab.with_ok (Tab.with_ok Tab.none_ok rtrim_ok) riwide_ok
theorem Rof_mu (f : FuncId) (a : List AVal) (H : Heap) : Rof.mu f a H = none := (rfl)
theorem Rof_fns : Rof.fn 78 = pureS sTrim ∧ Rof.fn 108 = pureS sWide := ⟨rfl, rfl⟩
theorem riof_ok : FnOk Tryz.prog base 60 (pureS sIOf) := by
  refine pure_of_vc hmix Rof_ok globNone low60 fun args z hs hf => ?_
  unfold sIOf at hs
  split at hs
  case h_2 => cases hs
  rename_i n
  split at hs
  case isFalse => cases hs
  rename_i hc
  cases hs
  refine ⟨by simp [lf60], ?_⟩
  obtain ⟨m, hm⟩ : ∃ m, m = n.natAbs := ⟨_, rfl⟩
  have hmB : m < B := by rw [B_lit]; omega
  have ht := sTrim_map (l := [m]) (Wf.cons hmB Wf.nil) (by simp)
  rw [show val [m] = m from by simp [val]] at ht
  simp only [List.map_cons, List.map_nil, u64] at ht
  obtain ⟨b1, l1, hbl1, wl1, hW⟩ := sWide_num (decide (n < 0)) m
  rw [hm, zOf_sign] at hbl1
  rw [hbl1]
  by_cases h0 : n < 0
  · have w1 : IntKind.u64.wrap n = n + 18446744073709551616 := by rw [IntKind.wrap_u64]; omega
    have w2 : IntKind.u64.wrap (-(n + 18446744073709551616)) = (m : Int) := by rw [IntKind.wrap_u64]; omega
    simp only [h0, decide_true] at hW
    simp [lf60, h0, w1, w2, ht, hW, iP, fillS, freeze1, Rof_mu, Rof_fns]
  · have w1 : IntKind.u64.wrap n = (m : Int) := by rw [IntKind.wrap_u64]; omega
    simp only [h0, decide_false] at hW
    simp [lf60, h0, w1, ht, hW, iP, fillS, freeze1, Rof_mu, Rof_fns]
end Go.Proofs.YtjjpfffclcofnaaGreatDoor
