/-
  What whole's functions of ints, texts and quotients compute. No conditions beyond the lemmas' own hypotheses.
-/
import Derived.Test.YtoechbpjfkabmaaGreatDoorWholeIA
import Derived.Test.YtoechbpjfkabmaaGreatDoorNatI
import Derived.Test.YtoechbpjfkabmaaGreatDoorNatH
set_option linter.unusedSimpArgs false
set_option linter.unusedVariables false
set_option linter.constructorNameAsVariable false

/-
  whole: numbers of ints, values, texts, quotients; law2's same and few.
-/
namespace Go.Proofs.YtoechbpjfkabmaaGreatDoor
open Go Go.Abs Go.Limbs
variable {base : Prot}
set_option maxRecDepth 20000
attribute [local irreducible] vc
attribute [local simp] pureS touchV freezeL fuel shiftV u64 au
/-! ### Of -/
def sIOf : List PVal → Option PVal
  | [.int .i64 n] => if -9223372036854775808 ≤ n ∧ n < 9223372036854775808 then some (iN n) else none
  | _ => none
theorem sIOf_at {n : Int} (h1 : -9223372036854775808 ≤ n) (h2 : n < 9223372036854775808) : sIOf [.int .i64 n] = some (iN n) := if_pos ⟨h1, h2⟩
theorem ofL_num {n : Int} (h0 : 0 ≤ n) (h : n < 9223372036854775808) : ofL n = limbs n.natAbs := by
  unfold ofL
  by_cases hz : n ≤ 0
  · have : n = 0 := by omega
    subst this
    simp [limbs_zero]
  · rw [if_neg hz, IntKind.wrap_u64, limbs_small (by omega) (by rw [B_lit]; omega)]
    congr 1
    omega
def Tof : Tab := Tab.none.with 70 (pureS sOf)
theorem Tof_ok : TabOk Tryz.prog base Tof := Tab.with_ok Tab.none_ok of_ok
theorem Tof_mu (f : FuncId) (a : List AVal) (H : Heap) : Tof.mu f a H = none := (rfl)
theorem Tof_fn : Tof.fn 70 = pureS sOf := (rfl)
theorem iof_ok : FnOk Tryz.prog base 66 (pureS sIOf) := by
  refine pure_of_vc hmix Tof_ok globNone low66 fun args z hs hf => ?_
  unfold sIOf at hs
  split at hs
  case h_2 => cases hs
  rename_i n
  split at hs
  case isFalse => cases hs
  rename_i hc
  cases hs
  refine ⟨by simp [lf66], ?_⟩
  by_cases h0 : 0 ≤ n
  · have h1 : sOf [.int .i64 n] = some (.lst ((ofL n).map u64)) := rfl
    rw [ofL_num h0 hc.2] at h1
    have hn : ¬ n < 0 := by omega
    simp [lf66, h0, h1, hn, iN, iP, fillS, Tof_mu, Tof_fn]
  · have hn : n < 0 := by omega
    have w1 : IntKind.u64.wrap n = n + 18446744073709551616 := by rw [IntKind.wrap_u64]; omega
    obtain ⟨m, hm⟩ : ∃ m, m = n.natAbs := ⟨_, rfl⟩
    have w2 : IntKind.u64.wrap (-(n + 18446744073709551616)) = (m : Int) := by rw [IntKind.wrap_u64]; omega
    have hl : limbs m = [m] := limbs_small (by omega) (by rw [B_lit]; omega)
    unfold iN iP
    rw [← hm, hl]
    simp [lf66, h0, hn, w1, w2, fillS]
/-! ### Value -/
def valI (s : Bool) (l : List Nat) : Int × Bool := if okI s l && decide (-9223372036854775808 ≤ zL s l ∧ zL s l < 9223372036854775808) then (zL s l, true) else (0, false)
def sIVal : List PVal → Option PVal
  | [.agg [.bool s, .lst xs]] => match decU xs with | some l => some (.tup [.int .i64 (valI s l).1, .bool (valI s l).2]) | none => none
  | _ => none
theorem sIVal_list {s : Bool} {l : List Nat} (h : Wf l) : sIVal [.agg [.bool s, .lst (l.map u64)]] = some (.tup [.int .i64 (valI s l).1, .bool (valI s l).2]) := by simp only [sIVal, decU_map h]
def Tvl : Tab := Tab.none.with 14 (pureS sIV)
theorem Tvl_ok : TabOk Tryz.prog base Tvl := Tab.with_ok Tab.none_ok ivalid_ok
theorem Tvl_mu (f : FuncId) (a : List AVal) (H : Heap) : Tvl.mu f a H = none := (rfl)
theorem Tvl_fn : Tvl.fn 14 = pureS sIV := (rfl)
theorem one_limb {n : Nat} (h : len n = 1) : limbs n = [n] ∧ n < B ∧ n ≠ 0 := by
  have h1 := lt_len n
  rw [h, Nat.pow_one] at h1
  have h0 : n ≠ 0 := fun e => by subst e; rw [len_zero] at h; omega
  exact ⟨limbs_small h0 h1, h1, h0⟩
theorem ivalue_ok : FnOk Tryz.prog base 67 (pureS sIVal) := by
  refine pure_of_vc hmix Tvl_ok globNone low67 fun args z hs hf => ?_
  unfold sIVal at hs
  split at hs
  case h_2 => cases hs
  rename_i s xs
  split at hs
  case h_2 => cases hs
  rename_i l hd
  obtain ⟨rfl, wl⟩ := decU_some hd
  cases hs
  refine ⟨by simp [lf67], ?_⟩
  have hv := sIV_list (s := s) wl
  unfold valI
  cases ho : okI s l with
  | false => rw [ho] at hv; simp [lf67, hv, Tvl_mu, Tvl_fn]
  | true =>
    rw [ho] at hv
    obtain ⟨z, lz, rfl, rfl⟩ := okI_of ho
    rw [zL_num]
    have ll : (limbs z.natAbs).length = len z.natAbs := rfl
    by_cases h1 : 1 < len z.natAbs
    · have h1' : (1 : Int) < len z.natAbs := by omega
      have hB := lt_len_iff.1 h1
      rw [Nat.pow_one, B_lit] at hB
      have hno : ¬ (-9223372036854775808 ≤ z ∧ z < 9223372036854775808) := by omega
      simp only [hno, decide_false, Bool.and_false]
      simp [lf67, hv, ll, h1, h1', Tvl_mu, Tvl_fn]
    · have h1' : ¬ (1 : Int) < len z.natAbs := by omega
      by_cases h0 : z = 0
      · subst h0
        simp [limbs_zero] at hv
        simp [lf67, hv, limbs_zero, Tvl_mu, Tvl_fn]
      · have hn0 : len z.natAbs ≠ 0 := fun e => h0 (by have h6 := len_eq_zero.1 e; omega)
        obtain ⟨e1, e2, e3⟩ := one_limb (show len z.natAbs = 1 by omega)
        obtain ⟨n, hn⟩ : ∃ n, n = z.natAbs := ⟨_, rfl⟩
        rw [← hn] at e1 e2 e3 hv ⊢
        rw [B_lit] at e2
        rw [e1] at hv ⊢
        simp at hv
        by_cases hz : z < 0
        · have w1 : IntKind.u64.wrap (-(n : Int)) = 18446744073709551616 - n := by rw [IntKind.wrap_u64]; omega
          by_cases hr : n ≤ 9223372036854775808
          · have hrI : (n : Int) ≤ 9223372036854775808 := by omega
            have w2 : IntKind.i64.wrap (18446744073709551616 - (n : Int)) = z := by rw [IntKind.wrap_i64]; omega
            have hin : -9223372036854775808 ≤ z ∧ z < 9223372036854775808 := by omega
            simp [hz] at hv
            simp [lf67, hv, hz, hr, hrI, w1, w2, hin, Tvl_mu, Tvl_fn]
          · have hrI : ¬ (n : Int) ≤ 9223372036854775808 := by omega
            have hno : ¬ (-9223372036854775808 ≤ z ∧ z < 9223372036854775808) := by omega
            simp only [hno, decide_false, Bool.and_false]
            simp [hz] at hv
            simp [lf67, hv, hz, hr, hrI, Tvl_mu, Tvl_fn]
        · by_cases hr : n < 9223372036854775808
          · have hrI : (n : Int) < 9223372036854775808 := by omega
            have w2 : IntKind.i64.wrap (n : Int) = z := by rw [IntKind.wrap_i64]; omega
            have hin : -9223372036854775808 ≤ z ∧ z < 9223372036854775808 := by omega
            simp [hz] at hv
            simp [lf67, hv, hz, hr, hrI, w2, hin, Tvl_mu, Tvl_fn]
          · have hrI : ¬ (n : Int) < 9223372036854775808 := by omega
            have hno : ¬ (-9223372036854775808 ≤ z ∧ z < 9223372036854775808) := by omega
            simp only [hno, decide_false, Bool.and_false]
            simp [hz] at hv
            simp [lf67, hv, hz, hr, hrI, Tvl_mu, Tvl_fn]
/-! ### Text -/
def textI (s : Bool) (l : List Nat) : List UInt8 := if okI s l then (if s then 45 :: Lib.decDigits (val l) else Lib.decDigits (val l)) else []
def sIText : List PVal → Option PVal
  | [.agg [.bool s, .lst xs]] => match decU xs with | some l => some (.str (textI s l)) | none => none
  | _ => none
theorem sIText_list {s : Bool} {l : List Nat} (h : Wf l) : sIText [.agg [.bool s, .lst (l.map u64)]] = some (.str (textI s l)) := by simp only [sIText, decU_map h]
def Tit : Tab := (Tab.none.with 14 (pureS sIV)).with 78 (pureS sText)
theorem Tit_ok : TabOk Tryz.prog base2 Tit := Tab.with_ok (Tab.with_ok Tab.none_ok ivalid_ok) text_ok
theorem Tit_mu (f : FuncId) (a : List AVal) (H : Heap) : Tit.mu f a H = none := (rfl)
theorem Tit_fns : Tit.fn 14 = pureS sIV ∧ Tit.fn 78 = pureS sText := ⟨rfl, rfl⟩
theorem dec_le {n k : Nat} (h : n < 10 ^ (k + 1)) : (Lib.decDigits n).length ≤ k + 1 := (pad_dec k n h).1
theorem B64_ten : B ^ 64 < 10 ^ (1279 + 1) := by decide +kernel
theorem B64_k : ∃ k, k ≤ 1279 ∧ B ^ 64 ≤ 10 ^ (k + 1) := ⟨1279, Nat.le_refl _, Nat.le_of_lt B64_ten⟩
theorem itext_ok : FnOk Tryz.prog base2 20 (pureS sIText) := by
  refine pure_of_vc hmix Tit_ok globNone low20 fun args z hs hf => ?_
  unfold sIText at hs
  split at hs
  case h_2 => cases hs
  rename_i s xs
  split at hs
  case h_2 => cases hs
  rename_i l hd
  obtain ⟨rfl, wl⟩ := decU_some hd
  cases hs
  refine ⟨by simp [lf20], ?_⟩
  have hv := sIV_list (s := s) wl
  unfold textI
  cases ho : okI s l with
  | false => rw [ho] at hv; simp [lf20, hv, Tit_mu, Tit_fns]
  | true =>
    rw [ho] at hv
    obtain ⟨z, lz, hs', rfl⟩ := okI_of ho
    have ht := sText_num (show len z.natAbs ≤ 64 from lz)
    rw [val_limbs]
    have hlen : (Lib.decDigits z.natAbs).length ≤ 1280 := by
      obtain ⟨k, hk, h10⟩ := B64_k
      have h := dec_le (k := k) (Nat.lt_of_lt_of_le (lt_len _) (Nat.le_trans (Bpow_le lz) h10))
      omega
    obtain ⟨t, htt⟩ : ∃ t, t = Lib.decDigits z.natAbs := ⟨_, rfl⟩
    rw [← htt] at ht hlen ⊢
    have hm : 1 + t.length ≤ maxLen := by unfold maxLen; omega
    cases s with
    | false => simp [lf20, hv, ht, Tit_mu, Tit_fns]
    | true => simp [lf20, hv, ht, hm, binS, Tit_mu, Tit_fns]
/-! ### Parse -/
def sCut : List PVal → Option PVal
  | [.str s, .str p] => if p = [45] then some (match s with | c :: r => if c = 45 then .tup [.str r, .bool true] else .tup [.str (c :: r), .bool false] | [] => .tup [.str [], .bool false]) else none
  | _ => none
def sHP : List PVal → Option PVal
  | [.str s, .str p] => if p = [45] then some (.bool (match s with | c :: _ => decide (c = 45) | [] => false)) else none
  | _ => none
theorem hp_ok : FnOk Tryz.prog base 161 (pureS sHP) := by
  refine pure_of_vc hmix Tab.none_ok globNone low161 fun args z hs hf => ?_
  unfold sHP at hs
  split at hs
  case h_2 => cases hs
  rename_i s p
  split at hs
  case isFalse => cases hs
  rename_i hp
  subst hp
  cases hs
  refine ⟨by simp [lf161], ?_⟩
  match s with
  | [] => simp [lf161, binS]
  | c :: r =>
    have h1 : (1 : Int) ≤ (r.length : Int) + 1 := by omega
    by_cases hc : c = 45
    · subst hc
      simp [lf161, binS, h1]
    · have hb : (c == 45) = false := by simpa using hc
      simp [lf161, binS, h1, hc, hb]
def Thp : Tab := Tab.none.with 161 (pureS sHP)
theorem Thp_ok : TabOk Tryz.prog base Thp := Tab.with_ok Tab.none_ok hp_ok
theorem Thp_mu (f : FuncId) (a : List AVal) (H : Heap) : Thp.mu f a H = none := (rfl)
theorem Thp_fn : Thp.fn 161 = pureS sHP := (rfl)
theorem cutl_ok : FnOk Tryz.prog base 129 (pureS sCut) := by
  refine pure_of_vc hmix Thp_ok globNone low129 fun args z hs hf => ?_
  unfold sCut at hs
  split at hs
  case h_2 => cases hs
  rename_i s p
  split at hs
  case isFalse => cases hs
  rename_i hp
  subst hp
  cases hs
  refine ⟨by simp [lf129], ?_⟩
  cases s with
  | nil =>
    have h0 : sHP [.str [], .str [45]] = some (.bool false) := by simp [sHP]
    simp [lf129, h0, Thp_mu, Thp_fn]
  | cons c r =>
    have h1 : (1 : Int) ≤ (r.length : Int) + 1 := by omega
    have h0 : sHP [.str (c :: r), .str [45]] = some (.bool (decide (c = 45))) := by simp [sHP]
    by_cases hc : c = 45
    · subst hc
      simp at h0
      simp [lf129, h0, h1, Thp_mu, Thp_fn]
    · simp [hc] at h0
      simp [lf129, h0, h1, hc, Thp_mu, Thp_fn]
def Tct : Tab := Tab.none.with 129 (pureS sCut)
theorem Tct_ok : TabOk Tryz.prog base Tct := Tab.with_ok Tab.none_ok cutl_ok
theorem Tct_mu (f : FuncId) (a : List AVal) (H : Heap) : Tct.mu f a H = none := (rfl)
theorem Tct_fn : Tct.fn 129 = pureS sCut := (rfl)
theorem cut_ok : FnOk Tryz.prog base 76 (pureS sCut) := by
  refine pure_of_vc hmix Tct_ok globNone low76 fun args z hs hf => ?_
  have hs' := hs
  unfold sCut at hs
  split at hs
  case h_2 => cases hs
  rename_i s p
  split at hs
  case isFalse => cases hs
  rename_i hp
  subst hp
  refine ⟨by simp [lf76], ?_⟩
  obtain ⟨r, b, hz⟩ : ∃ r b, z = .tup [.str r, .bool b] := by
    cases hs
    match s with
    | [] => exact ⟨_, _, rfl⟩
    | c :: r =>
      by_cases hc : c = 45
      · exact ⟨r, true, by simp [hc]⟩
      · exact ⟨c :: r, false, by simp [hc]⟩
  subst hz
  simp [lf76, hs', Tct_mu, Tct_fn]
def parseI (s : List UInt8) : Bool × List Nat × Nat := match s with
  | c :: r => if c = 45 then (decide (0 < (parseL r).1.length), (parseL r).1, (parseL r).2) else (false, (parseL (c :: r)).1, (parseL (c :: r)).2)
  | [] => (false, (parseL []).1, (parseL []).2)
def sIParse : List PVal → Option PVal
  | [.str s] => if s.length ≤ 90000 then some (.tup [iP (parseI s).1 (parseI s).2.1, .int .i64 (parseI s).2.2]) else none
  | _ => none
theorem sIParse_at {s : List UInt8} (h : s.length ≤ 90000) : sIParse [.str s] = some (.tup [iP (parseI s).1 (parseI s).2.1, .int .i64 (parseI s).2.2]) := by
  simp only [sIParse]
  rw [if_pos h]
theorem wf_parseL (s : List UInt8) : Wf (parseL s).1 := by
  unfold parseL heldL
  split
  · split
    · exact Wf.nil
    · split
      · exact wf_limbs _
      · exact Wf.nil
  · exact Wf.nil
theorem sWide_list (s : Bool) {l : List Nat} (h : Wf l) : sWide [.bool s, .lst (l.map u64)] = some (.agg [.bool (s && decide (0 < l.length)), .lst (l.map u64)]) := by simp only [sWide, decU_map h]; rfl
def Tip : Tab := ((Tab.none.with 76 (pureS sCut)).with 77 (pureS sParse)).with 73 (pureS sWide)
theorem Tip_ok : TabOk Tryz.prog base Tip := Tab.with_ok (Tab.with_ok (Tab.with_ok Tab.none_ok cut_ok) parse_nat_ok) wide_ok
theorem Tip_mu (f : FuncId) (a : List AVal) (H : Heap) : Tip.mu f a H = none := (rfl)
theorem Tip_fns : Tip.fn 76 = pureS sCut ∧ Tip.fn 77 = pureS sParse ∧ Tip.fn 73 = pureS sWide := ⟨rfl, rfl, rfl⟩
theorem iparse_ok : FnOk Tryz.prog base 19 (pureS sIParse) := by
  refine pure_of_vc hmix Tip_ok globNone low19 fun args z hs hf => ?_
  unfold sIParse at hs
  split at hs
  case h_2 => cases hs
  rename_i s
  split at hs
  case isFalse => cases hs
  rename_i hl
  cases hs
  refine ⟨by simp [lf19], ?_⟩
  obtain ⟨r, b, hc, he, hr⟩ : ∃ r b, sCut [.str s, .str [45]] = some (.tup [.str r, .bool b]) ∧ parseI s = (b && decide (0 < (parseL r).1.length), (parseL r).1, (parseL r).2) ∧ r.length ≤ 90000 := by
    match s with
    | [] => exact ⟨[], false, by simp [sCut], by simp [parseI], by simp⟩
    | c :: r =>
      by_cases h : c = 45
      · exact ⟨r, true, by simp [sCut, h], by simp [parseI, h], by simp at hl; omega⟩
      · exact ⟨c :: r, false, by simp [sCut, h], by simp [parseI, h], hl⟩
  rw [he]
  have h1 := sParse_at hr
  have h2 := sWide_list b (wf_parseL r)
  obtain ⟨p, hp⟩ : ∃ p, p = parseL r := ⟨_, rfl⟩
  rw [← hp] at h1 h2 ⊢
  simp only [pairP, lstP] at h1
  simp only
  obtain ⟨q, hq⟩ : ∃ q, q = (b && decide (0 < p.1.length)) := ⟨_, rfl⟩
  rw [← hq] at h2 ⊢
  simp [lf19, hc, h1, h2, iP, fillS, Tip_mu, Tip_fns]
/-! ### law2's same and few -/
def sSameI : List PVal → Option PVal
  | [.agg [.bool s, .lst xs], .agg [.bool t, .lst ys]] => match decU xs, decU ys with | some a, some b => some (.bool (decide (s = t) && decide (a = b))) | _, _ => none
  | _ => none
theorem sSameI_list {s t : Bool} {a b : List Nat} (ha : Wf a) (hb : Wf b) : sSameI [.agg [.bool s, .lst (a.map u64)], .agg [.bool t, .lst (b.map u64)]] = some (.bool (decide (s = t) && decide (a = b))) := by simp only [sSameI, decU_map ha, decU_map hb]
theorem sameI_ok : FnOk Tryz.prog base 40 (pureS sSameI) := by
  refine pure_of_vc hmix Tsm_ok globNone low40 fun args z hs hf => ?_
  unfold sSameI at hs
  split at hs
  case h_2 => cases hs
  rename_i s xs t ys
  split at hs
  case h_2 => cases hs
  rename_i a b ha hb
  obtain ⟨rfl, wa⟩ := decU_some ha
  obtain ⟨rfl, wb⟩ := decU_some hb
  cases hs
  refine ⟨by simp [lf40], ?_⟩
  have h1 := sSame_list wa wb
  obtain ⟨q, hq⟩ : ∃ q, q = decide (a = b) := ⟨_, rfl⟩
  rw [← hq] at h1 ⊢
  by_cases hst : s = t
  · have hbe : (s == t) = true := by simp [hst]
    simp [lf40, hst, hbe, h1, Tsm_mu, Tsm_fn]
  · have hbe : (s == t) = false := by simp [hst]
    simp [lf40, hst, hbe, h1, Tsm_mu, Tsm_fn]
def Tsi : Tab := Tab.none.with 40 (pureS sSameI)
theorem Tsi_ok : TabOk Tryz.prog base Tsi := Tab.with_ok Tab.none_ok sameI_ok
theorem Tsi_mu (f : FuncId) (a : List AVal) (H : Heap) : Tsi.mu f a H = none := (rfl)
theorem Tsi_fn : Tsi.fn 40 = pureS sSameI := (rfl)
theorem isame_ok : FnOk Tryz.prog base 21 (pureS sSameI) := by
  refine pure_of_vc hmix Tsi_ok globNone low21 fun args z hs hf => ?_
  have hs' := hs
  unfold sSameI at hs
  split at hs
  case h_2 => cases hs
  refine ⟨by simp [lf21], ?_⟩
  simp [lf21, hs', Tsi_mu, Tsi_fn]
end Go.Proofs.YtoechbpjfkabmaaGreatDoor

/-
  whole: quotients; law2's awake.
-/
namespace Go.Proofs.YtoechbpjfkabmaaGreatDoor
open Go Go.Abs Go.Limbs
variable {base : Prot}
set_option maxRecDepth 20000
attribute [local irreducible] vc
attribute [local simp] pureS touchV freezeL fuel shiftV u64 au
/-! ### Div -/
def cD (z w : Int) : Bool := (decide (z < 0) != decide (w < 0)) && decide (z.natAbs % w.natAbs ≠ 0)
def nD (z w : Int) : Nat := if cD z w then z.natAbs / w.natAbs + 1 else z.natAbs / w.natAbs
def lD (z w : Int) : Nat := if cD z w then w.natAbs - z.natAbs % w.natAbs else z.natAbs % w.natAbs
def qD (z w : Int) : Int := zOf (decide (z < 0) != decide (w < 0)) (nD z w)
def rD (z w : Int) : Int := zOf (decide (w < 0)) (lD z w)
def sIDiv : List PVal → Option PVal
  | [.agg [.bool s, .lst xs], .agg [.bool t, .lst ys]] => match decU xs, decU ys with
    | some a, some b => if okI s a && okI t b && decide (b ≠ []) then (if len (val a) ≤ 60 then some (.tup [iN (qD (zL s a) (zL t b)), iN (rD (zL s a) (zL t b)), .int .i64 0]) else none) else some (.tup [iP false [], iP false [], .int .i64 1])
    | _, _ => none
  | _ => none
theorem sIDiv_num {z w : Int} (hz : zl z ≤ 60) (hw : zl w ≤ 64) (h0 : w ≠ 0) : sIDiv [iN z, iN w] = some (.tup [iN (qD z w), iN (rD z w), .int .i64 0]) := by
  simp only [sIDiv, iN, iP, decU_map (wf_limbs _), zL_num, val_limbs]
  have hb : limbs w.natAbs ≠ [] := fun e => h0 (by have := limbs_eq_nil.1 e; omega)
  rw [if_pos (by rw [okI_num (by omega), okI_num hw]; simp [hb]), if_pos (show len z.natAbs ≤ 60 from hz)]
theorem sIDiv_zero (z : Int) : sIDiv [iN z, iN 0] = some (.tup [iP false [], iP false [], .int .i64 1]) := by
  simp only [sIDiv, iN, iP, decU_map (wf_limbs _)]
  rw [if_neg]
  simp [limbs_zero]
def Tid : Tab := (((((((Tab.none.with 14 (pureS sIV)).with 68 (pureS sQuot)).with 70 (pureS sOf)).with 69 (pureS sPlus)).with 71 (pureS sMinus)).with 73 (pureS sWide)).with 72 (pureS sIHeld))
theorem Tid_ok : TabOk Tryz.prog base Tid := Tab.with_ok (Tab.with_ok (Tab.with_ok (Tab.with_ok (Tab.with_ok (Tab.with_ok (Tab.with_ok Tab.none_ok ivalid_ok) quot_ok) of_ok) plus_ok) minus_ok) wide_ok) iheld_ok
theorem Tid_mu (f : FuncId) (a : List AVal) (H : Heap) : Tid.mu f a H = none := (rfl)
theorem Tid_fns : Tid.fn 14 = pureS sIV ∧ Tid.fn 68 = pureS sQuot ∧ Tid.fn 70 = pureS sOf ∧ Tid.fn 69 = pureS sPlus ∧ Tid.fn 71 = pureS sMinus ∧ Tid.fn 73 = pureS sWide ∧ Tid.fn 72 = pureS sIHeld := ⟨rfl, rfl, rfl, rfl, rfl, rfl, rfl⟩
theorem idiv_ok : FnOk Tryz.prog base 16 (pureS sIDiv) := by
  refine pure_of_vc hmix Tid_ok globNone low16 fun args x hs hf => ?_
  unfold sIDiv at hs
  split at hs
  case h_2 => cases hs
  rename_i s xs t ys
  split at hs
  case h_2 => cases hs
  rename_i a b ha hb
  obtain ⟨rfl, wa⟩ := decU_some ha
  obtain ⟨rfl, wb⟩ := decU_some hb
  refine ⟨by simp [lf16], ?_⟩
  have va := sIV_list (s := s) wa
  have vb := sIV_list (s := t) wb
  by_cases hc : (okI s a && okI t b && decide (b ≠ [])) = true
  case neg =>
    rw [if_neg hc] at hs
    cases hs
    cases oa : okI s a with
    | false =>
      rw [oa] at va
      simp [lf16, va, vc_regionW, iP, Tid_mu, Tid_fns]
      refine ⟨[2], ?_⟩
      simp
    | true =>
      rw [oa] at va hc
      cases ob : okI t b with
      | false =>
        rw [ob] at vb
        simp [lf16, va, vb, vc_regionW, iP, Tid_mu, Tid_fns]
        refine ⟨[2], ?_⟩
        simp
      | true =>
        rw [ob] at vb hc
        have hb0 : b = [] := by simpa using hc
        subst hb0
        simp only [List.map_nil] at vb
        simp [lf16, va, vb, vc_regionW, iP, Tid_mu, Tid_fns]
        refine ⟨[2], ?_⟩
        simp
  rw [if_pos hc] at hs
  split at hs
  case isFalse => cases hs
  rename_i hl60
  cases hs
  simp only [Bool.and_eq_true, decide_eq_true_eq] at hc
  obtain ⟨⟨oa, ob⟩, hb0⟩ := hc
  rw [oa] at va
  rw [ob] at vb
  obtain ⟨z, lz, rfl, rfl⟩ := okI_of oa
  obtain ⟨w, lw, rfl, rfl⟩ := okI_of ob
  rw [zL_num, zL_num]
  rw [val_limbs] at hl60
  unfold zl at lz lw
  have hw0 : w.natAbs ≠ 0 := fun e => hb0 (by rw [e, limbs_zero])
  have hwl : (limbs w.natAbs).length = len w.natAbs := rfl
  have hwl0 : ((len w.natAbs : Int) == 0) = false := beq_false_of_ne (by have : len w.natAbs ≠ 0 := fun e => hw0 (len_eq_zero.1 e); omega)
  have hQ := sQuot_num (show len z.natAbs ≤ 100000 by omega) (show len w.natAbs ≤ 100000 by omega) hw0
  have hqle : z.natAbs / w.natAbs ≤ z.natAbs := Nat.div_le_self _ _
  have hrlt : z.natAbs % w.natAbs < w.natAbs := Nat.mod_lt _ (Nat.pos_of_ne_zero hw0)
  have hql : len (z.natAbs / w.natAbs) ≤ 60 := Nat.le_trans (len_mono hqle) hl60
  have hnl : len (nD z w) ≤ 61 := by
    unfold nD
    split
    · have := len_add (z.natAbs / w.natAbs) 1
      rw [show len 1 = 1 from by rw [len, limbs_small (by decide) (by decide)]; rfl] at this
      omega
    · omega
  obtain ⟨b1, l1, hbl1, wl1, hW1⟩ := sWide_num (decide (z < 0) != decide (w < 0)) (nD z w)
  obtain ⟨b2, l2, hbl2, wl2, hW2⟩ := sWide_num (decide (w < 0)) (lD z w)
  have hH := sIHeld_num (qD z w)
  have hq64 : zl (qD z w) ≤ 64 := by unfold zl qD; rw [zOf_abs]; omega
  unfold hN hE at hH
  rw [if_pos hq64, if_pos hq64] at hH
  rw [show zOf (decide (z < 0) != decide (w < 0)) (nD z w) = qD z w from rfl] at hbl1
  rw [show zOf (decide (w < 0)) (lD z w) = rD z w from rfl] at hbl2
  rw [hbl1] at hH ⊢
  rw [hbl2]
  obtain ⟨n, hn⟩ : ∃ n, n = nD z w := ⟨_, rfl⟩
  obtain ⟨l, hl⟩ : ∃ l, l = lD z w := ⟨_, rfl⟩
  rw [← hn] at hW1
  rw [← hl] at hW2
  obtain ⟨s, hs⟩ : ∃ s, s = decide (z < 0) := ⟨_, rfl⟩
  obtain ⟨t, ht⟩ : ∃ t, t = decide (w < 0) := ⟨_, rfl⟩
  have hcd : cD z w = ((!s == t) && decide (z.natAbs % w.natAbs ≠ 0)) := by
    unfold cD
    rw [← hs, ← ht]
    cases s <;> cases t <;> rfl
  unfold nD at hn
  unfold lD at hl
  rw [hcd] at hn hl
  obtain ⟨m, hm⟩ : ∃ m, m = z.natAbs := ⟨_, rfl⟩
  obtain ⟨k, hk⟩ : ∃ k, k = w.natAbs := ⟨_, rfl⟩
  rw [← hs, ← ht] at hW1
  rw [← ht] at hW2
  rw [show (s != t) = (!s == t) from by cases s <;> cases t <;> rfl] at hW1
  rw [← hs, ← hm] at va
  rw [← ht, ← hk] at vb
  rw [← hm, ← hk] at hn hl hQ hrlt hql
  rw [← hk] at hwl hwl0 lw
  rw [← hs, ← ht, ← hm, ← hk]
  obtain ⟨q, hq⟩ : ∃ q, q = m / k := ⟨_, rfl⟩
  obtain ⟨r, hr⟩ : ∃ r, r = m % k := ⟨_, rfl⟩
  rw [← hq, ← hr] at hQ hn
  rw [← hr] at hl
  rw [← hr] at hrlt
  rw [← hq] at hql
  have hrl : (limbs r).length = len r := rfl
  simp only [iP] at hH
  have hlr : len r ≤ 64 := Nat.le_trans (len_mono (Nat.le_of_lt hrlt)) lw
  by_cases hst : s = t
  · have hbe : (!s == t) = false := by rw [hst]; cases t <;> rfl
    rw [hbe] at hn hl hW1
    simp only [Bool.false_and, Bool.false_eq_true, if_false] at hn hl
    subst hn hl
    simp [lf16, va, vb, hwl, hwl0, hQ, hbe, hrl, hW1, hH, fillS, vc_regionW, Tid_mu, Tid_fns]
    refine ⟨[], ?_⟩
    simp [hW2, iP, Tid_mu, Tid_fns]
  · have hbe : (!s == t) = true := by cases s <;> cases t <;> simp at hst ⊢
    rw [hbe] at hn hl hW1
    by_cases hr0 : r = 0
    · simp only [hr0, ne_eq, not_true, decide_false, Bool.and_false, Bool.false_eq_true, if_false] at hn hl
      rw [hr0] at hQ
      subst hn hl
      rw [limbs_zero] at hQ hW2
      simp only [List.map_nil] at hQ hW2
      simp [lf16, va, vb, hwl, hwl0, hQ, hbe, hW1, hH, fillS, vc_regionW, Tid_mu, Tid_fns]
      refine ⟨[], ?_⟩
      simp [hW2, iP, Tid_mu, Tid_fns]
    · have hr1 : (decide (r ≠ 0)) = true := decide_eq_true hr0
      simp only [hr1, Bool.and_true, if_true] at hn hl
      have hlr0 : len r ≠ 0 := fun e => hr0 (len_eq_zero.1 e)
      have hlp : (0 : Int) < len r := by omega
      have hlp' : 0 < len r := by omega
      have hO : sOf [.int .i64 1] = some (.lst [.int .u64 1]) := by
        show some (lstP (ofL 1)) = _
        unfold ofL
        rw [if_neg (by decide)]
        rfl
      have e1 : limbs 1 = [1] := limbs_small (by decide) (by decide)
      have hP := sPlus_num (a := q) (b := 1) (by omega) (by rw [len, e1]; decide)
      rw [e1] at hP
      simp only [List.map_cons, List.map_nil, u64] at hP
      simp at hP
      have hM := sMinus_num (a := k) (b := r) (by omega) (by omega) (Nat.le_of_lt hrlt)
      rw [← hn] at hP
      rw [← hl] at hM
      simp [lf16, va, vb, hwl, hwl0, hQ, hbe, hrl, hlp, hlp', hO, hP, hM, hW1, hH, fillS, vc_regionW, Tid_mu, Tid_fns]
      refine ⟨[], ?_⟩
      simp [hW2, iP, Tid_mu, Tid_fns]
end Go.Proofs.YtoechbpjfkabmaaGreatDoor

/-
  whole: calls at numbers; law2's awake.
-/
namespace Go.Proofs.YtoechbpjfkabmaaGreatDoor
open Go Go.Abs Go.Limbs
variable {base : Prot}
set_option maxRecDepth 20000
attribute [local irreducible] vc
attribute [local simp] pureS touchV freezeL fuel shiftV u64 au
theorem iN_raw (z : Int) : iN z = .agg [.bool (decide (z < 0)), .lst ((limbs z.natAbs).map u64)] := rfl
theorem cIAdd {z w v : Int} (hz : zl z ≤ 64) (hw : zl w ≤ 64) (hv : z + w = v) (h : zl v ≤ 64) : sIAdd [iN z, iN w] = some (.tup [iN v, .int .i64 0]) := by
  subst hv
  rw [iN_raw z, iN_raw w, sIAdd_list (wf_limbs _) (wf_limbs _), okI_num hz, okI_num hw, zL_num, zL_num]
  unfold hN hE
  simp [h]
theorem cIMul {z w v : Int} (hz : zl z ≤ 64) (hw : zl w ≤ 64) (hv : z * w = v) (h : zl v ≤ 64) : sIMul [iN z, iN w] = some (.tup [iN v, .int .i64 0]) := by
  subst hv
  rw [iN_raw z, iN_raw w, sIMul_list (wf_limbs _) (wf_limbs _), okI_num hz, okI_num hw, zL_num, zL_num]
  unfold hN hE
  simp [h]
theorem cICmp {z w : Int} (hz : zl z ≤ 64) (hw : zl w ≤ 64) : sICmp [iN z, iN w] = some (.int .i64 (cmpZ z w)) := by
  rw [iN_raw z, iN_raw w, sICmp_list (wf_limbs _) (wf_limbs _), okI_num hz, okI_num hw, zL_num, zL_num]
  rfl
theorem cINeg {z v : Int} (hz : zl z ≤ 64) (hv : -z = v) : sINeg [iN z] = some (iN v) := by
  subst hv
  rw [iN_raw z, sINeg_list (wf_limbs _), okI_num hz, zL_num]
  rfl
theorem cISign {z : Int} (hz : zl z ≤ 64) : sISign [iN z] = some (.int .i64 (sgnZ z)) := by
  rw [iN_raw z, sISign_list (wf_limbs _), okI_num hz, zL_num]
  rfl
theorem cIVal {z : Int} (hz : -9223372036854775808 ≤ z ∧ z < 9223372036854775808) (hl : zl z ≤ 64) : sIVal [iN z] = some (.tup [.int .i64 z, .bool true]) := by
  rw [iN_raw z, sIVal_list (wf_limbs _)]
  unfold valI
  rw [okI_num hl, zL_num]
  simp [hz]
theorem cIValNo {z : Int} (hz : ¬ (-9223372036854775808 ≤ z ∧ z < 9223372036854775808)) : sIVal [iN z] = some (.tup [.int .i64 0, .bool false]) := by
  rw [iN_raw z, sIVal_list (wf_limbs _)]
  unfold valI
  rw [zL_num, decide_eq_false hz, Bool.and_false]
  rfl
theorem cISame (z w : Int) : sSameI [iN z, iN w] = some (.bool (decide (z = w))) := by
  rw [iN_raw z, iN_raw w, sSameI_list (wf_limbs _) (wf_limbs _)]
  congr 2
  by_cases h : z = w
  · subst h; simp
  · rw [decide_eq_false h]
    by_cases h1 : decide (z < 0) = decide (w < 0)
    · have h2 : ¬ limbs z.natAbs = limbs w.natAbs := fun e => h (by
        have := limbs_inj e
        by_cases hz : z < 0
        · have hw : w < 0 := by simpa [hz] using h1
          omega
        · have hw : ¬ w < 0 := by simpa [hz] using h1
          omega)
      simp [h2]
    · simp [h1]
theorem cISelf (z : Int) : sSameI [iN z, iN z] = some (.bool true) := by rw [cISame, decide_eq_true rfl]
theorem iN_small {z : Int} {n : Nat} {b : Bool} (h : z.natAbs = n) (h0 : n ≠ 0) (hB : n < B) (hb : decide (z < 0) = b) : iN z = .agg [.bool b, .lst [.int .u64 n]] := by
  rw [iN_raw, h, hb, limbs_small h0 hB]; rfl
theorem iN_zero : iN 0 = .agg [.bool false, .lst []] := by
  rw [iN_raw]; simp [limbs_zero]
theorem zl_small {z : Int} (h : z.natAbs < B) : zl z ≤ 1 := len_le (by rw [Nat.pow_one]; exact h)
def Ta2 : Tab := (((((((((((Tab.none.with 66 (pureS sIOf)).with 16 (pureS sIDiv)).with 19 (pureS sIParse)).with 67 (pureS sIVal)).with 18 (pureS sIAdd)).with 20 (pureS sIText)).with 22 (pureS sISign)).with 24 (pureS sINeg)).with 23 (pureS sICmp)).with 14 (pureS sIV)).with 21 (pureS sSameI)).with 17 (pureS sIMul)
theorem Ta2_ok : TabOk Tryz.prog base2 Ta2 := Tab.with_ok (Tab.with_ok (Tab.with_ok (Tab.with_ok (Tab.with_ok (Tab.with_ok (Tab.with_ok (Tab.with_ok (Tab.with_ok (Tab.with_ok (Tab.with_ok (Tab.with_ok Tab.none_ok iof_ok) idiv_ok) iparse_ok) ivalue_ok) iadd_ok) itext_ok) isign_ok) ineg_ok) icmp_ok) ivalid_ok) isame_ok) imul_ok
theorem Ta2_mu (f : FuncId) (a : List AVal) (H : Heap) : Ta2.mu f a H = none := (rfl)
theorem Ta2_fns : Ta2.fn 66 = pureS sIOf ∧ Ta2.fn 16 = pureS sIDiv ∧ Ta2.fn 19 = pureS sIParse ∧ Ta2.fn 67 = pureS sIVal ∧ Ta2.fn 18 = pureS sIAdd ∧ Ta2.fn 20 = pureS sIText ∧ Ta2.fn 22 = pureS sISign ∧ Ta2.fn 24 = pureS sINeg ∧
  Ta2.fn 23 = pureS sICmp ∧ Ta2.fn 14 = pureS sIV ∧ Ta2.fn 21 = pureS sSameI ∧ Ta2.fn 17 = pureS sIMul := ⟨rfl, rfl, rfl, rfl, rfl, rfl, rfl, rfl, rfl, rfl, rfl, rfl⟩
end Go.Proofs.YtoechbpjfkabmaaGreatDoor
