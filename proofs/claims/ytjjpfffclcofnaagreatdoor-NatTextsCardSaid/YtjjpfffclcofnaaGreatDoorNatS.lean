/-
  NatTexts answers true on all values. No conditions.
-/
import Derived.Test.YtjjpfffclcofnaaGreatDoorNatR
import Derived.Test.YtjjpfffclcofnaaGreatDoorNatP
set_option linter.unusedSimpArgs false
set_option linter.unusedVariables false
set_option linter.constructorNameAsVariable false

/-
  NatTexts answers true.
-/
namespace Go.Proofs.YtjjpfffclcofnaaGreatDoor
open Go Go.Abs Go.Limbs
variable {base : Prot}
set_option maxRecDepth 20000
attribute [local irreducible] vc
attribute [local simp] pureS touchV freezeL fuel shiftV u64 au

theorem digit_isD {d : Nat} (h : d < 10) : isD (digit d) = true := by
  have := digit_val h
  unfold isD
  simp
  omega
theorem numD_dec (n : Nat) : numD 0 (Lib.decDigits n) = n ∧ (Lib.decDigits n).all isD = true := by
  induction n using Nat.strongRecOn with
  | _ n ih =>
    by_cases h : n < 10
    · rw [Lib.decDigits_one h]
      have hv := digit_val h
      refine ⟨?_, ?_⟩
      · have := numD_snoc [] (digit n)
        rw [List.nil_append] at this
        show numD 0 [digit n] = n
        rw [this, show numD 0 [] = 0 from rfl]
        omega
      · show List.all [digit n] isD = true
        simp [digit_isD h]
    · obtain ⟨i1, i2⟩ := ih (n / 10) (by omega)
      have hm : n % 10 < 10 := Nat.mod_lt _ (by decide)
      have hv := digit_val hm
      rw [dec_ten h, numD_snoc, i1, List.all_append, i2]
      refine ⟨by omega, by simp [digit_isD hm]⟩
theorem parse_same {s : List UInt8} (h : s.length ≤ 1000) : parseL s = parseR s := by
  unfold parseL parseR
  have := (List.dropWhile_sublist (p := (· == 48)) (l := s)).length_le
  rw [if_neg (show ¬ 1280 < (s.dropWhile (· == 48)).length by omega)]
theorem parse_back {n : Nat} (hn : len n ≤ 64) (h : (Lib.decDigits n).length ≤ 1280) : parseL (48 :: 48 :: Lib.decDigits n) = (limbs n, 0) := by
  obtain ⟨h1, h2⟩ := numD_dec n
  unfold parseL
  have hd : digS (48 :: 48 :: Lib.decDigits n) = true := (digS_iff _).2 ⟨by simp, by simp [h2, show isD 48 = true from rfl]⟩
  rw [hd, if_pos rfl]
  have := (List.dropWhile_sublist (p := (· == 48)) (l := Lib.decDigits n)).length_le
  have e : (48 :: 48 :: Lib.decDigits n).dropWhile (· == 48) = (Lib.decDigits n).dropWhile (· == 48) := by simp
  rw [e, if_neg (by omega)]
  have e2 : numD 0 (48 :: 48 :: Lib.decDigits n) = n := by
    show numD 0 (Lib.decDigits n) = n
    exact h1
  rw [e2, heldL_num hn]
theorem wf_parseR (s : List UInt8) : Wf (parseR s).1 := by
  unfold parseR
  split
  · exact wf_heldL _
  · exact Wf.nil

def sLawT : List PVal → Option PVal
  | [.str _, .lst xs] => match decU xs with | some _ => some (.bool true) | none => none
  | _ => none
def Tnt : Tab := (Tlw.with 17 (pureS sParseR)).with 20 (pureS sText)
theorem Tnt_ok : TabOk Tryz.prog base2 Tnt := Tab.with_ok (Tab.with_ok Tlw_ok rparse_ok) rtext_ok
theorem Tnt_mu (f : FuncId) (a : List AVal) (H : Heap) : Tnt.mu f a H = none := (rfl)
theorem Tnt_fns : Tnt.fn 17 = pureS sParseR ∧ Tnt.fn 20 = pureS sText ∧ Tnt.fn 15 = pureS sAwake ∧ Tnt.fn 19 = pureS sSame ∧ Tnt.fn 16 = pureS sParse ∧ Tnt.fn 18 = pureS sText ∧ Tnt.fn 21 = pureS sValid := ⟨rfl, rfl, rfl, rfl, rfl, rfl, rfl⟩

theorem texts_ok : FnOk Tryz.prog base2 3 (pureS sLawT) := by
  refine pure_of_vc hmix Tnt_ok globNone low3 fun args z hs hf => ?_
  unfold sLawT at hs
  split at hs
  case h_2 => cases hs
  rename_i s xs
  split at hs
  case h_2 => cases hs
  rename_i a ha
  obtain ⟨rfl, wa⟩ := decU_some ha
  cases hs
  refine ⟨by simp [lf3], ?_⟩
  have aw := sAwake_nil
  by_cases hc : s.length ≤ 200 ∧ a.length ≤ 12
  · obtain ⟨hs, hl⟩ := hc
    have hsI : ¬ (200 : Int) < s.length := by omega
    have hlI : ¬ (12 : Int) < a.length := by omega
    have h1 := sParse_at (s := s) (by omega)
    rw [parse_same (by omega)] at h1
    have h2 := sParseR_at (s := s) (by omega)
    have h3 := sText_list wa
    have h4 := sValid_list wa
    have s1 := sSame_self (wf_parseR s)
    obtain ⟨p1, e1⟩ : ∃ t, t = parseR s := ⟨_, rfl⟩
    rw [← e1] at h1 h2 s1
    simp only [pairP, lstP] at h1 h2
    cases hok : okL a with
    | false =>
      rw [hok] at h3 h4
      simp at h3
      simp [lf3, hsI, hlI, hs, hl, h1, h2, h3, h4, s1, aw, binS, Tnt_mu, Tnt_fns]
    | true =>
      rw [hok] at h3 h4
      obtain ⟨n, rfl, hn⟩ := okL_true hok
      rw [if_pos rfl, val_limbs] at h3
      have hDl : (Lib.decDigits n).length ≤ 1280 := by
        obtain ⟨k, hk, h10⟩ := B64_le
        have h := dec_leR (k := k) (Nat.lt_of_lt_of_le (lt_len _) (Nat.le_trans (Bpow_le hn) h10))
        omega
      have h5 := sParse_at (s := 48 :: 48 :: Lib.decDigits n) (by simp; omega)
      rw [parse_back hn hDl] at h5
      simp only [pairP, lstP] at h5
      have s2 := sSame_num n
      obtain ⟨t, ht⟩ : ∃ t, t = Lib.decDigits n := ⟨_, rfl⟩
      rw [← ht] at h3 h5 hDl
      have hm : 2 + t.length ≤ maxLen := by unfold maxLen; omega
      simp [lf3, hsI, hlI, hs, hl, h1, h2, h3, h4, h5, s1, s2, aw, binS, hm, Tnt_mu, Tnt_fns]
  · by_cases hs : s.length ≤ 200
    · have hsI : ¬ (200 : Int) < s.length := by omega
      have hlI : (12 : Int) < a.length := by omega
      simp [lf3, hsI, hlI, hs, aw, Tnt_mu, Tnt_fns]
    · have hsI : (200 : Int) < s.length := by omega
      simp [lf3, hsI, hs, aw, Tnt_mu, Tnt_fns]
end Go.Proofs.YtjjpfffclcofnaaGreatDoor
