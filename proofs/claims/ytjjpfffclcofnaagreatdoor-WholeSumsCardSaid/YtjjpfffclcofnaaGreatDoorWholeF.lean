/-
  WholeSums answers true on all values. No conditions.
-/
import Derived.Test.YtjjpfffclcofnaaGreatDoorWholeE
set_option linter.unusedSimpArgs false
set_option linter.unusedVariables false
set_option linter.constructorNameAsVariable false

/-
  WholeSums answers true.
-/
namespace Go.Proofs.YtjjpfffclcofnaaGreatDoor
open Go Go.Abs Go.Limbs
variable {base : Prot}
set_option maxRecDepth 20000
attribute [local irreducible] vc
attribute [local simp] pureS touchV freezeL fuel shiftV u64 au

theorem res_hN (c : Bool) (z : Int) : ∃ (s : Bool) (l : List Nat), Wf l ∧ (if c = true then hN z else iP false []) = .agg [.bool s, .lst (l.map u64)] := by
  cases c with
  | false => exact ⟨false, [], Wf.nil, rfl⟩
  | true =>
    obtain ⟨s, l, h, w⟩ := hN_case z
    exact ⟨s, l, w, by rw [if_pos rfl, h]; rfl⟩
theorem res_iN (c : Bool) (z : Int) : ∃ (s : Bool) (l : List Nat), Wf l ∧ (if c = true then iN z else iP false []) = .agg [.bool s, .lst (l.map u64)] := by
  cases c with
  | false => exact ⟨false, [], Wf.nil, rfl⟩
  | true => exact ⟨_, _, wf_limbs _, by rw [if_pos rfl]; rfl⟩
theorem sSameI_self {s : Bool} {l : List Nat} (h : Wf l) : sSameI [.agg [.bool s, .lst (l.map u64)], .agg [.bool s, .lst (l.map u64)]] = some (.bool true) := by
  rw [sSameI_list h h]; simp

def sLawZZR : List PVal → Option PVal
  | [.agg [.bool _, .lst xs], .agg [.bool _, .lst ys], .int .i64 n] => match decU xs, decU ys with | some _, some _ => if -9223372036854775808 ≤ n ∧ n < 9223372036854775808 then some (.bool true) else none | _, _ => none
  | _ => none
theorem sLawZZR_at {s t : Bool} {a b : List Nat} {n : Int} (ha : Wf a) (hb : Wf b) (hn : -9223372036854775808 ≤ n ∧ n < 9223372036854775808) : sLawZZR [.agg [.bool s, .lst (a.map u64)], .agg [.bool t, .lst (b.map u64)], .int .i64 n] = some (.bool true) := by simp only [sLawZZR, decU_map ha, decU_map hb, if_pos hn]

def Tsw : Tab := (((((Tin.with 55 (pureS sIAdd)).with 56 (pureS sISub)).with 57 (pureS sIMul)).with 62 (pureS sINeg)).with 59 (pureS sIVal)).with 63 (pureS sIV)
theorem Tsw_ok : TabOk Tryz.prog base2 Tsw := Tab.with_ok (Tab.with_ok (Tab.with_ok (Tab.with_ok (Tab.with_ok (Tab.with_ok Tin_ok riaddi_ok) risubi_ok) rimuli_ok) rinegi_ok) rivalue_ok) rivalid_ok
theorem Tsw_mu (f : FuncId) (a : List AVal) (H : Heap) : Tsw.mu f a H = none := (rfl)
theorem Tsw_fns : Tsw.fn 55 = pureS sIAdd ∧ Tsw.fn 56 = pureS sISub ∧ Tsw.fn 57 = pureS sIMul ∧ Tsw.fn 62 = pureS sINeg ∧ Tsw.fn 59 = pureS sIVal ∧ Tsw.fn 63 = pureS sIV ∧ Tsw.fn 60 = pureS sIOf ∧ Tsw.fn 61 = pureS sICmp ∧
  Tsw.fn 43 = pureS sAwake ∧ Tsw.fn 54 = pureS sIFew ∧ Tsw.fn 47 = pureS sSameI ∧ Tsw.fn 64 = pureS sIOf ∧ Tsw.fn 58 = pureS sIVal ∧ Tsw.fn 45 = pureS sIAdd ∧ Tsw.fn 49 = pureS sISign ∧ Tsw.fn 48 = pureS sINeg ∧
  Tsw.fn 44 = pureS sICmp ∧ Tsw.fn 42 = pureS sIV ∧ Tsw.fn 46 = pureS sISub ∧ Tsw.fn 51 = pureS sIMul := ⟨rfl, rfl, rfl, rfl, rfl, rfl, rfl, rfl, rfl, rfl, rfl, rfl, rfl, rfl, rfl, rfl, rfl, rfl, rfl, rfl⟩

set_option maxHeartbeats 8000000 in
theorem wsums_ok : FnOk Tryz.prog base2 13 (pureS sLawZZR) := by
  refine pure_of_vc hmix Tsw_ok globNone low13 fun args x hs hf => ?_
  unfold sLawZZR at hs
  split at hs
  case h_2 => cases hs
  rename_i s xs t ys n
  split at hs
  case h_2 => cases hs
  rename_i a b ha hb
  split at hs
  case isFalse => cases hs
  rename_i hn
  obtain ⟨rfl, wa⟩ := decU_some ha
  obtain ⟨rfl, wb⟩ := decU_some hb
  cases hs
  refine ⟨by simp [lf13], ?_⟩
  have aw := sAwake_nil
  have hfew : sIFew [.agg [.bool s, .lst (a.map u64)], .agg [.bool t, .lst (b.map u64)]] = some (.bool (decide ((a.map u64).length ≤ 66) && decide ((b.map u64).length ≤ 66))) := rfl
  obtain ⟨q, hq⟩ : ∃ q, q = (decide ((a.map u64).length ≤ 66) && decide ((b.map u64).length ≤ 66)) := ⟨_, rfl⟩
  rw [← hq] at hfew
  cases q with
  | false => simp [lf13, hfew, aw, Tsw_mu, Tsw_fns]
  | true =>
    have h1 := sIAdd_list (s := s) (t := t) wa wb
    have h2 := sISub_list (s := s) (t := t) wa wb
    have h3 := sIMul_list (s := s) (t := t) wa wb
    have h4 := sICmp_list (s := s) (t := t) wa wb
    have h5 := sISign_list (s := s) wa
    have h6 := sINeg_list (s := s) wa
    have h7 := sIVal_list (s := s) wa
    have h8 := sIV_list (s := s) wa
    have h9 := sICmp_list (s := s) (t := false) wa Wf.nil
    have e9 : (if (okI s a && okI false []) = true then cmpZ (zL s a) (zL false []) else 0) = (if okI s a = true then sgnZ (zL s a) else 0) := by
      rw [show okI false [] = true from by unfold okI okL; simp [val, limbs_zero], Bool.and_true]
      rfl
    rw [e9] at h9
    simp only [List.map_nil] at h9
    have o1 := sIOf_at hn.1 hn.2
    have o2 := sIOf_at (n := 0) (by decide) (by decide)
    rw [iN_zero] at o2
    obtain ⟨s1, l1, w1, e1⟩ := res_hN (okI s a && okI t b) (zL s a + zL t b)
    obtain ⟨s2, l2, w2, e2⟩ := res_hN (okI s a && okI t b) (zL s a - zL t b)
    obtain ⟨s3, l3, w3, e3⟩ := res_hN (okI s a && okI t b) (zL s a * zL t b)
    obtain ⟨s4, l4, w4, e4⟩ := res_iN (okI s a) (-(zL s a))
    have f1 := sSameI_self (s := s1) w1
    have f2 := sSameI_self (s := s2) w2
    have f3 := sSameI_self (s := s3) w3
    have f4 := sSameI_self (s := s4) w4
    have f5 := sSameI_self (s := decide (n < 0)) (wf_limbs n.natAbs)
    rw [← iN_raw] at f5
    obtain ⟨s5, l5, e5⟩ := iN_ex n
    rw [e5] at f5 o1
    rw [e1] at h1
    rw [e2] at h2
    rw [e3] at h3
    rw [e4] at h6
    generalize (if (okI s a && okI t b) = true then hE (zL s a + zL t b) else 1) = x1 at h1
    generalize (if (okI s a && okI t b) = true then hE (zL s a - zL t b) else 1) = x2 at h2
    generalize (if (okI s a && okI t b) = true then hE (zL s a * zL t b) else 1) = x3 at h3
    generalize (if (okI s a && okI t b) = true then cmpZ (zL s a) (zL t b) else 0) = x4 at h4
    generalize (if okI s a = true then sgnZ (zL s a) else 0) = x5 at h5 h9
    generalize (valI s a).1 = x6 at h7
    generalize (valI s a).2 = x7 at h7
    generalize okI s a = x8 at h8
    clear e1 e2 e3 e4 e5 e9 ha hb hq
    simp [lf13, hfew, aw, h1, h2, h3, h4, h5, h6, h7, h8, h9, o1, o2, f1, f2, f3, f4, f5, fillS, Tsw_mu, Tsw_fns]
end Go.Proofs.YtjjpfffclcofnaaGreatDoor
