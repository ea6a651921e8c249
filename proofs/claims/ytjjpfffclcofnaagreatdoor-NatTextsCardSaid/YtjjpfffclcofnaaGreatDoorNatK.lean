/-
  NatRings, NatBack answer true on all values. No conditions.
-/
import Derived.Test.YtjjpfffclcofnaaGreatDoorNatI
import Derived.Test.YtjjpfffclcofnaaGreatDoorNatJ
set_option linter.unusedSimpArgs false
set_option linter.unusedVariables false
set_option linter.constructorNameAsVariable false

/-
  NatRings and NatBack answer true.
-/
namespace Go.Proofs.YtjjpfffclcofnaaGreatDoor
open Go Go.Abs Go.Limbs
variable {base : Prot}
set_option maxRecDepth 20000
attribute [local irreducible] vc
attribute [local simp] pureS touchV freezeL fuel shiftV u64 au

def Tlw : Tab := Tlw0.with 15 (pureS sAwake)
theorem Tlw_ok : TabOk Tryz.prog base2 Tlw := Tab.with_ok Tlw0_ok awake_ok
theorem Tlw_mu (f : FuncId) (a : List AVal) (H : Heap) : Tlw.mu f a H = none := (rfl)
theorem Tlw_fns : Tlw.fn 15 = pureS sAwake ∧ Tlw.fn 19 = pureS sSame ∧ Tlw.fn 23 = pureS sAdd ∧ Tlw.fn 25 = pureS sSub ∧ Tlw.fn 27 = pureS sMul ∧ Tlw.fn 34 = pureS sDivMod ∧ Tlw.fn 35 = pureS sGcd ∧ Tlw.fn 33 = pureS sShift ∧ Tlw.fn 32 = pureS sBits ∧ Tlw.fn 21 = pureS sValid ∧
  Tlw.fn 29 = pureS sCmp ∧ Tlw.fn 40 = pureS sOf ∧ Tlw.fn 16 = pureS sParse ∧ Tlw.fn 18 = pureS sText := ⟨rfl, rfl, rfl, rfl, rfl, rfl, rfl, rfl, rfl, rfl, rfl, rfl, rfl, rfl⟩

/-- Rows that are looked at, whatever they hold. -/
def sLaw2 : List PVal → Option PVal
  | [.lst xs, .lst ys] => match decU xs, decU ys with | some _, some _ => some (.bool true) | _, _ => none
  | _ => none
def sLaw3 : List PVal → Option PVal
  | [.lst xs, .lst ys, .lst zs] => match decU xs, decU ys, decU zs with | some _, some _, some _ => some (.bool true) | _, _, _ => none
  | _ => none
def sLawI : List PVal → Option PVal
  | [.lst xs, .int .i64 _] => match decU xs with | some _ => some (.bool true) | _ => none
  | _ => none
def sLawII : List PVal → Option PVal
  | [.int .i64 _, .int .i64 _] => some (.bool true)
  | _ => none
theorem sLaw2_list {a b : List Nat} (ha : Wf a) (hb : Wf b) : sLaw2 [.lst (a.map u64), .lst (b.map u64)] = some (.bool true) := by simp only [sLaw2, decU_map ha, decU_map hb]
theorem sLaw3_list {a b c : List Nat} (ha : Wf a) (hb : Wf b) (hc : Wf c) : sLaw3 [.lst (a.map u64), .lst (b.map u64), .lst (c.map u64)] = some (.bool true) := by simp only [sLaw3, decU_map ha, decU_map hb, decU_map hc]
theorem sLawI_list {a : List Nat} (ha : Wf a) (n : Int) : sLawI [.lst (a.map u64), .int .i64 n] = some (.bool true) := by simp only [sLawI, decU_map ha]

theorem rings_ok : FnOk Tryz.prog base2 5 (pureS sLaw3) := by
  refine pure_of_vc hmix Tlw_ok globNone low5 fun args z hs hf => ?_
  unfold sLaw3 at hs
  split at hs
  case h_2 => cases hs
  rename_i xs ys zs
  split at hs
  case h_2 => cases hs
  rename_i a b c ha hb hc
  obtain ⟨rfl, wa⟩ := decU_some ha
  obtain ⟨rfl, wb⟩ := decU_some hb
  obtain ⟨rfl, wc⟩ := decU_some hc
  cases hs
  refine ⟨by simp [lf5], ?_⟩
  have aw := sAwake_nil
  have va := sValid_list wa
  have vb := sValid_list wb
  have vc := sValid_list wc
  by_cases la : a.length ≤ 20
  case neg =>
    have la' : (20 : Int) < a.length := by omega
    simp [lf5, la, la', aw, Tlw_mu, Tlw_fns]
  have la' : ¬ (20 : Int) < a.length := by omega
  by_cases lb : b.length ≤ 20
  case neg =>
    have lb' : (20 : Int) < b.length := by omega
    simp [lf5, la, la', lb, lb', aw, Tlw_mu, Tlw_fns]
  have lb' : ¬ (20 : Int) < b.length := by omega
  by_cases lc : c.length ≤ 20
  case neg =>
    have lc' : (20 : Int) < c.length := by omega
    simp [lf5, la, la', lb, lb', lc, lc', aw, Tlw_mu, Tlw_fns]
  have lc' : ¬ (20 : Int) < c.length := by omega
  cases oa : okL a with
  | false => rw [oa] at va; simp [lf5, la, la', lb, lb', lc, lc', va, aw, Tlw_mu, Tlw_fns]
  | true =>
  rw [oa] at va
  cases ob : okL b with
  | false => rw [ob] at vb; simp [lf5, la, la', lb, lb', lc, lc', va, vb, aw, Tlw_mu, Tlw_fns]
  | true =>
  rw [ob] at vb
  cases oc : okL c with
  | false => rw [oc] at vc; simp [lf5, la, la', lb, lb', lc, lc', va, vb, vc, aw, Tlw_mu, Tlw_fns]
  | true =>
  rw [oc] at vc
  obtain ⟨A, rfl, lA⟩ := okL_true oa
  obtain ⟨X, rfl, lX⟩ := okL_true ob
  obtain ⟨C, rfl, lC⟩ := okL_true oc
  have kA : len A ≤ 20 := la
  have kX : len X ≤ 20 := lb
  have kC : len C ≤ 20 := lc
  obtain ⟨S, hS⟩ : ∃ t, A + X = t := ⟨_, rfl⟩
  obtain ⟨Q, hQ⟩ : ∃ t, A * C = t := ⟨_, rfl⟩
  obtain ⟨R, hR⟩ : ∃ t, X * C = t := ⟨_, rfl⟩
  obtain ⟨U, hU⟩ : ∃ t, Q + R = t := ⟨_, rfl⟩
  have lS : len S ≤ 21 := by have := len_add A X; rw [hS] at this; omega
  have lQ : len Q ≤ 40 := by have := len_mul A C; rw [hQ] at this; omega
  have lR : len R ≤ 40 := by have := len_mul X C; rw [hR] at this; omega
  have lU : len U ≤ 41 := by have := len_add Q R; rw [hU] at this; omega
  have h1 := cAdd lA lX hS (by omega)
  have h2 := cAdd lX lA (Nat.add_comm X A |>.trans hS) (by omega)
  have h3 := cMul (a := S) (b := C) (s := U) (by omega) lC (by rw [← hU, ← hQ, ← hR, ← hS, Nat.add_mul]) (by omega)
  have h4 := cMul lA lC hQ (by omega)
  have h5 := cMul lX lC hR (by omega)
  have h6 := cAdd (a := Q) (b := R) (by omega) (by omega) hU (by omega)
  have h7 := cSub (a := S) (b := X) (s := A) (by omega) lX (by omega)
  have h8 := cValid (a := U) (by omega)
  simp [lf5, la, la', lb, lb', lc, lc', va, vb, vc, aw, h1, h2, h3, h4, h5, h6, h7, h8, sSame_num, Tlw_mu, Tlw_fns]

theorem back_ok : FnOk Tryz.prog base2 8 (pureS sLaw2) := by
  refine pure_of_vc hmix Tlw_ok globNone low8 fun args z hs hf => ?_
  unfold sLaw2 at hs
  split at hs
  case h_2 => cases hs
  rename_i xs ys
  split at hs
  case h_2 => cases hs
  rename_i a b ha hb
  obtain ⟨rfl, wa⟩ := decU_some ha
  obtain ⟨rfl, wb⟩ := decU_some hb
  cases hs
  refine ⟨by simp [lf8], ?_⟩
  have aw := sAwake_nil
  have va := sValid_list wa
  have vb := sValid_list wb
  by_cases la : a.length ≤ 8
  case neg =>
    have la' : (8 : Int) < a.length := by omega
    simp [lf8, la, la', aw, Tlw_mu, Tlw_fns]
  have la' : ¬ (8 : Int) < a.length := by omega
  by_cases lb : b.length ≤ 8
  case neg =>
    have lb' : (8 : Int) < b.length := by omega
    simp [lf8, la, la', lb, lb', aw, Tlw_mu, Tlw_fns]
  have lb' : ¬ (8 : Int) < b.length := by omega
  cases oa : okL a with
  | false => rw [oa] at va; simp [lf8, la, la', lb, lb', va, aw, Tlw_mu, Tlw_fns]
  | true =>
  rw [oa] at va
  cases ob : okL b with
  | false => rw [ob] at vb; simp [lf8, la, la', lb, lb', va, vb, aw, Tlw_mu, Tlw_fns]
  | true =>
  rw [ob] at vb
  by_cases hz : b = []
  · subst hz
    simp only [List.map_nil] at vb
    simp [lf8, la, la', va, vb, aw, Tlw_mu, Tlw_fns]
  have hbl : ((b.length : Int) == 0) = false := beq_false_of_ne (by have : b.length ≠ 0 := fun e => hz (List.length_eq_zero_iff.1 e); omega)
  obtain ⟨A, rfl, lA⟩ := okL_true oa
  obtain ⟨X, rfl, lX⟩ := okL_true ob
  have kA : len A ≤ 8 := la
  have kX : len X ≤ 8 := lb
  have X0 : X ≠ 0 := fun e => hz (limbs_eq_nil.2 e)
  have X0' := Nat.pos_of_ne_zero X0
  obtain ⟨Q, hQ⟩ : ∃ t, A / X = t := ⟨_, rfl⟩
  obtain ⟨R, hR⟩ : ∃ t, A % X = t := ⟨_, rfl⟩
  obtain ⟨Y, hY⟩ : ∃ t, Q * X = t := ⟨_, rfl⟩
  obtain ⟨G, hG⟩ : ∃ t, Nat.gcd A X = t := ⟨_, rfl⟩
  have hdm : Y + R = A := by rw [← hY, ← hQ, ← hR, Nat.mul_comm]; exact Nat.div_add_mod A X
  have hRX : R < X := by rw [← hR]; exact Nat.mod_lt _ X0'
  have lQ : len Q ≤ 8 := Nat.le_trans (len_mono (by rw [← hQ]; exact Nat.div_le_self A X)) kA
  have lR : len R ≤ 8 := Nat.le_trans (len_mono (by omega)) kX
  have lY : len Y ≤ 8 := Nat.le_trans (len_mono (by omega)) kA
  have G0 : 0 < G := by rw [← hG]; exact Nat.gcd_pos_of_pos_right _ X0'
  have lG : len G ≤ 8 := Nat.le_trans (len_mono (by rw [← hG]; exact Nat.gcd_le_right _ X0')) kX
  have lG0 : len G ≠ 0 := fun e => by rw [len_eq_zero] at e; omega
  have lGi : ((len G : Int) == 0) = false := beq_false_of_ne (by omega)
  have lG2 : (limbs G).length = len G := rfl
  have gA : A % G = 0 := by rw [← hG]; exact Nat.mod_eq_zero_of_dvd (Nat.gcd_dvd_left A X)
  have gX : X % G = 0 := by rw [← hG]; exact Nat.mod_eq_zero_of_dvd (Nat.gcd_dvd_right A X)
  obtain ⟨M, hM⟩ : ∃ t, A / G = t := ⟨_, rfl⟩
  obtain ⟨N, hN⟩ : ∃ t, X / G = t := ⟨_, rfl⟩
  have lM : len M ≤ 8 := Nat.le_trans (len_mono (by rw [← hM]; exact Nat.div_le_self A G)) kA
  have lN : len N ≤ 8 := Nat.le_trans (len_mono (by rw [← hN]; exact Nat.div_le_self X G)) kX
  have hMN : Nat.gcd M N = 1 := by
    rw [← hM, ← hN, ← hG]
    exact Nat.gcd_div_gcd_div_gcd_of_pos_right X0'
  have hl1 : limbs 1 = [1] := limbs_small (by decide) (by decide)
  have h1 := cDiv lA lX X0 hQ hR
  have h2 := cMul (a := Q) (b := X) (by omega) lX hY (by omega)
  have h3 := cAdd (a := Y) (b := R) (by omega) (by omega) hdm lA
  have h4 := cCmp (a := R) (b := X) (by omega) lX
  rw [cmpI_lt hRX] at h4
  have h5 := cGcd lA lX hG
  have h6 := cDiv (a := A) (b := G) lA (by omega) (by omega) hM gA
  have h7 := cDiv (a := X) (b := G) lX (by omega) (by omega) hN gX
  have h8 := cGcd (a := M) (b := N) (by omega) (by omega) hMN
  have h9 := sSame_self (l := [1]) (Wf.cons (by decide) Wf.nil)
  rw [hl1] at h8
  simp only [List.map_cons, List.map_nil, u64] at h8 h9
  simp at h8 h9
  simp [lf8, la, la', lb, lb', va, vb, hbl, aw, h1, h2, h3, h4, h5, h6, h7, h8, h9, sSame_num, limbs_zero, lG2, lG0, lGi, fillS, freeze1, Tlw_mu, Tlw_fns]
end Go.Proofs.YtjjpfffclcofnaaGreatDoor
