/-
  What the reference's functions of decimals compute. No conditions beyond the lemmas' own hypotheses.
-/
import Derived.Test.YtgdpephlpdonnaaGreatDoorDecG
import Derived.Test.YtgdpephlpdonnaaGreatDoorDecF
import Derived.Test.YtgdpephlpdonnaaGreatDoorRatM
set_option linter.unusedSimpArgs false
set_option linter.unusedVariables false
set_option linter.constructorNameAsVariable false

/-
  The reference: numerals, whole numbers' texts, digits of numbers of any size, terms of fractions.
-/
namespace Go.Proofs.YtgdpephlpdonnaaGreatDoor
open Go Go.Abs Go.Limbs
variable {base : Prot}
set_option maxRecDepth 20000
attribute [local irreducible] vc
attribute [local simp] pureS touchV freezeL fuel shiftV u64 au
/-! ### numeral -/
def sNumR : List PVal → Option PVal
  | [.str s] => if s.length ≤ 300 then some (.bool (numS s)) else none
  | _ => none
theorem sNumR_at {s : List UInt8} (h : s.length ≤ 300) : sNumR [.str s] = some (.bool (numS s)) := if_pos h
theorem rnum_ok : FnOk Tryz.prog base 29 (pureS sNumR) := by
  refine pure_of_vc hmix Tab.none_ok globNone low29 fun args z hs hf => ?_
  unfold sNumR at hs
  split at hs
  case h_2 => cases hs
  rename_i s
  split at hs
  case isFalse => cases hs
  rename_i hl
  cases hs
  refine ⟨by simp [lf29], ?_⟩
  simp [lf29]
  simp only [lf29_B0, vc_block]
  refine loop_ind (fun fr H => ∃ i : Nat, H = [] ∧ i ≤ s.length ∧ (s.take i).all isD = true ∧ fr 0 = .p (.str s) ∧ fr 3 = .p (.int .i64 i)) (fun fr _ => s.length - ivar (fr 3)) ⟨0, rfl, by omega, by simp, by simp, by simp⟩ ?_
  rintro fr H ⟨i, rfl, hi, hall, f0, f3⟩
  by_cases hlt : i < s.length
  · obtain ⟨c, hc⟩ : ∃ c, s[i]? = some c := ⟨_, List.getElem?_eq_getElem hlt⟩
    have hw1 := wrap_succ (i := i) (by omega)
    have hcm := List.mem_of_getElem? hc
    have htk := take_succ_get hc
    have hcx := getE hc
    by_cases hd : isD c = true
    · obtain ⟨hlo, hhi⟩ := isD_bound hd
      have h48 : ¬ (c.toNat : Int) < 48 := by omega
      have h57 : ¬ (57 : Int) < c.toNat := by omega
      have hall2 : (s.take (i + 1)).all isD = true := by rw [htk, List.all_append, hall]; simp [hd]
      simp [f0, f3, hlt, hcx, h48, h57, hw1, ivar]
      exact ⟨⟨i + 1, by omega, List.all_eq_true.1 hall2, by omega⟩, by omega⟩
    · have hdf : isD c = false := by simpa using hd
      have hdg : digS s = false := by
        cases h : digS s with
        | false => rfl
        | true =>
          have := List.all_eq_true.1 ((digS_iff s).1 h).2 c hcm
          rw [hdf] at this
          cases this
      have hn : numS s = false := by unfold numS; rw [hdg]; rfl
      by_cases h48 : (c.toNat : Int) < 48
      · simp [f0, f3, hlt, hcx, h48, hn]
      · have h57 : (57 : Int) < c.toNat := by
          by_cases h57 : (57 : Int) < c.toNat
          · exact h57
          · exfalso
            unfold isD at hdf
            have : ¬ (48 ≤ c.toNat ∧ c.toNat < 58) := by simpa using hdf
            omega
        simp [f0, f3, hlt, hcx, h48, h57, hn]
  · have hil : i = s.length := by omega
    subst hil
    rw [List.take_of_length_le (Nat.le_refl _)] at hall
    cases s with
    | nil => simp [f0, f3, binS, numS, digS]
    | cons c r =>
      have hdg := (digS_iff (c :: r)).2 ⟨by simp, hall⟩
      have hlp : (0 : Int) < (r.length : Int) + 1 := by omega
      by_cases h1 : c :: r = [48]
      · simp [f0, f3, binS, h1, numS, digS]
        decide
      · have hd1 : decide (c :: r = [48]) = false := decide_eq_false h1
        by_cases hc : c = 48
        · subst hc
          have hr : r.isEmpty = false := by
            cases r with
            | nil => exact absurd rfl h1
            | cons _ _ => rfl
          simp [f0, f3, binS, h1, hlp, hr, numS, hdg]
        · have hc2 : ((c.toNat : Int) != 48) = true := bne_iff_ne.2 (fun e => hc (UInt8.toNat_inj.1 (by show c.toNat = 48; omega)))
          have hc3 : (c == 48) = false := beq_false_of_ne hc
          simp [f0, f3, binS, h1, hc, hc2, hc3, hlp, numS, hdg]
/-! ### Whole numbers -/
theorem p10B' (m k : Nat) (h : k ≤ 19 * m) : 10 ^ k ≤ B ^ m := by
  have h1 : 10 ^ k ≤ 10 ^ (19 * m) := Nat.pow_le_pow_right (by decide) h
  have h2 : (10 ^ 19) ^ m ≤ B ^ m := Nat.pow_le_pow_left (by rw [B_lit]; decide) m
  rw [← Nat.pow_mul] at h2
  exact Nat.le_trans h1 h2
theorem p10B {k : Nat} (h : k ≤ 1216) : 10 ^ k ≤ B ^ 64 := p10B' 64 k (by omega)
theorem numD_lt10 {s : List UInt8} (h : s.all isD = true) : numD 0 s < 10 ^ s.length := (padD_of _ s rfl h).2
theorem numD_len {s : List UInt8} (h : s.all isD = true) (hl : s.length ≤ 1216) : len (numD 0 s) ≤ 64 := len_le (Nat.lt_of_lt_of_le (numD_lt10 h) (p10B hl))
def sOfW : List PVal → Option PVal
  | [.agg [.bool s, .lst xs]] => some (.agg [.bool s, .lst xs, .lst [.int .u64 1]])
  | _ => none
theorem iN_nat' (n : Nat) : iN (n : Int) = .agg [.bool false, .lst ((limbs n).map u64)] := iN_nat n
theorem ofQ_nat (n : Nat) : (ofQ (n : Rat)).enc = .agg [.bool false, .lst ((limbs n).map u64), .lst [.int .u64 1]] := by
  have h1 : ((n : Rat)).num = (n : Int) := rfl
  have h2 : ((n : Rat)).den = 1 := rfl
  unfold Fr.enc ofQ
  rw [h1, h2, decide_eq_false (show ¬ (n : Int) < 0 by omega), limbs_small (n := 1) (by decide) (by rw [B_lit]; decide)]
  rfl
theorem sOfW_nat (n : Nat) : sOfW [iN (n : Int)] = some (ofQ (n : Rat)).enc := by rw [iN_nat', ofQ_nat]; rfl
def Tow : Tab := Tab.none.with 31 (pureS sOne)
theorem Tow_ok : TabOk Tryz.prog base Tow := Tab.with_ok Tab.none_ok rone_ok
theorem Tow_mu (f : FuncId) (a : List AVal) (H : Heap) : Tow.mu f a H = none := (rfl)
theorem Tow_fns : Tow.fn 31 = pureS sOne := (rfl)
theorem rofw_ok : FnOk Tryz.prog base 71 (pureS sOfW) := by
  refine pure_of_vc hmix Tow_ok globNone low71 fun args z hs hf => ?_
  unfold sOfW at hs
  split at hs
  case h_2 => cases hs
  rename_i s xs
  cases hs
  refine ⟨by simp [lf71], ?_⟩
  simp [lf71, vc_regionW, fillS, Tow_mu, Tow_fns]
  refine ⟨[], ?_⟩
  simp [sOne, fillS, Tow_mu, Tow_fns]
def sPInt : List PVal → Option PVal
  | [.str s] => if digS s = true ∧ s.length ≤ 300 then some (.tup [iN (numD 0 s : Nat), .int .i64 0]) else none
  | _ => none
theorem sPInt_at {s : List UInt8} (hd : digS s = true) (h : s.length ≤ 300) : sPInt [.str s] = some (.tup [iN (numD 0 s : Nat), .int .i64 0]) := if_pos ⟨hd, h⟩
def Tpi : Tab := (Tab.none.with 72 (pureS sParseR)).with 53 (pureS sWide)
theorem Tpi_ok : TabOk Tryz.prog base Tpi := Tab.with_ok (Tab.with_ok Tab.none_ok rparse_ok) riwide_ok
theorem Tpi_mu (f : FuncId) (a : List AVal) (H : Heap) : Tpi.mu f a H = none := (rfl)
theorem Tpi_fns : Tpi.fn 72 = pureS sParseR ∧ Tpi.fn 53 = pureS sWide := ⟨rfl, rfl⟩
theorem rpint_ok : FnOk Tryz.prog base 70 (pureS sPInt) := by
  refine pure_of_vc hmix Tpi_ok globNone low70 fun args z hs hf => ?_
  unfold sPInt at hs
  split at hs
  case h_2 => cases hs
  rename_i s
  split at hs
  case isFalse => cases hs
  rename_i hc
  obtain ⟨hd, hl⟩ := hc
  cases hs
  refine ⟨by simp [lf70], ?_⟩
  obtain ⟨h0, hall⟩ := (digS_iff s).1 hd
  have P := sParseR_at (s := s) (by omega)
  have hlen := numD_len hall (by omega)
  rw [show parseR s = (limbs (numD 0 s), 0) by unfold parseR; rw [hd, if_pos rfl, heldL_num hlen]] at P
  have W := sWide_iN false (numD 0 s)
  obtain ⟨n, hn⟩ : ∃ n, n = numD 0 s := ⟨_, rfl⟩
  rw [← hn] at P W
  cases s with
  | nil => exact absurd rfl h0
  | cons c r =>
    have hlp : (0 : Int) < (r.length : Int) + 1 := by omega
    have hcd : isD c = true := List.all_eq_true.1 hall c (by simp)
    obtain ⟨hlo, hhi⟩ := isD_bound hcd
    have h45 : ((c.toNat : Int) == 45) = false := beq_false_of_ne (by omega)
    simp only [pairP, lstP] at P
    have e0 : iN (zOf false n) = .agg [.bool false, .lst ((limbs n).map u64)] := iN_nat' n
    have e1 : iN (n : Int) = .agg [.bool false, .lst ((limbs n).map u64)] := iN_nat' n
    rw [e0] at W
    rw [← hn, e1]
    simp [lf70, hlp, h45, P, W, fillS, binS, Tpi_mu, Tpi_fns]
end Go.Proofs.YtgdpephlpdonnaaGreatDoor

/-
  The reference: texts of fractions of digits alone, digits of numbers of any size, terms of fractions.
-/
namespace Go.Proofs.YtgdpephlpdonnaaGreatDoor
open Go Go.Abs Go.Limbs
variable {base : Prot}
set_option maxRecDepth 20000
attribute [local irreducible] vc
attribute [local simp] pureS touchV freezeL fuel shiftV u64 au
/-! ### ParseRat, of digits -/
def sPRat : List PVal → Option PVal
  | [.str s] => if digS s = true ∧ s.length ≤ 300 then some (pairF (ofQ (numD 0 s : Nat), 0)) else none
  | _ => none
theorem sPRat_at {s : List UInt8} (hd : digS s = true) (h : s.length ≤ 300) : sPRat [.str s] = some (pairF (ofQ (numD 0 s : Nat), 0)) := if_pos ⟨hd, h⟩
def Tprr : Tab := (Tab.none.with 70 (pureS sPInt)).with 71 (pureS sOfW)
theorem Tprr_ok : TabOk Tryz.prog base Tprr := Tab.with_ok (Tab.with_ok Tab.none_ok rpint_ok) rofw_ok
theorem Tprr_mu (f : FuncId) (a : List AVal) (H : Heap) : Tprr.mu f a H = none := (rfl)
theorem Tprr_fns : Tprr.fn 70 = pureS sPInt ∧ Tprr.fn 71 = pureS sOfW := ⟨rfl, rfl⟩
theorem rprat_ok : FnOk Tryz.prog base 30 (pureS sPRat) := by
  refine pure_of_vc hmix Tprr_ok globNone low30 fun args z hs hf => ?_
  unfold sPRat at hs
  split at hs
  case h_2 => cases hs
  rename_i s
  split at hs
  case isFalse => cases hs
  rename_i hc
  obtain ⟨hd, hl⟩ := hc
  cases hs
  refine ⟨by simp [lf30], ?_⟩
  obtain ⟨h0, hall⟩ := (digS_iff s).1 hd
  have P := sPInt_at hd hl
  have W := sOfW_nat (numD 0 s)
  obtain ⟨n, hn⟩ : ∃ n, n = numD 0 s := ⟨_, rfl⟩
  rw [← hn] at P W ⊢
  rw [ofQ_nat] at W
  rw [iN_nat'] at P W
  simp only [pairF]
  rw [ofQ_nat]
  simp [lf30, fillS]
  simp only [lf30_B0, vc_block]
  obtain ⟨bx, hbx⟩ : ∃ b : Ent, b = ⟨3, 0, false, [.agg [.p (.bool false), .tight [], .tight []]], 24⟩ := ⟨_, rfl⟩
  rw [← hbx]
  refine loop_ind (fun fr H => ∃ i : Nat, H = [bx] ∧ i ≤ s.length ∧ fr 0 = .p (.str s) ∧ fr 2 = .optr 0 0 0 0 ∧ fr 4 = .p (.int .i64 (-1)) ∧ fr 5 = .p (.int .i64 i)) (fun fr _ => s.length - ivar (fr 5)) ⟨0, rfl, by omega, by simp, by simp, by simp, by simp⟩ ?_
  rintro fr H ⟨i, rfl, hi, f0, f2, f4, f5⟩
  by_cases hlt : i < s.length
  · obtain ⟨c, hc⟩ : ∃ c, s[i]? = some c := ⟨_, List.getElem?_eq_getElem hlt⟩
    have hw1 := wrap_succ (i := i) (by omega)
    have hcd : isD c = true := List.all_eq_true.1 hall c (List.mem_of_getElem? hc)
    obtain ⟨hlo, hhi⟩ := isD_bound hcd
    have h47 : ((c.toNat : Int) == 47) = false := beq_false_of_ne (by omega)
    have hcx := getE hc
    simp [f0, f2, f4, f5, hlt, hcx, h47, hw1, binS, ivar]
    exact ⟨⟨i + 1, by omega, by omega⟩, by omega⟩
  · have hil : i = s.length := by omega
    subst hil
    simp [f0, f2, f4, f5, hbx, P, W, binS, fillS, Tprr_mu, Tprr_fns]
/-! ### wide -/
theorem dec_wide {n m : Nat} (h : len n ≤ m) : (Lib.decDigits n).length ≤ 20 * m + 1 := by
  refine dec_leR ?_
  have h1 : n < B ^ m := Nat.lt_of_lt_of_le (lt_len n) (Bpow_le h)
  have h2 : B ^ m ≤ (10 ^ 20) ^ m := Nat.pow_le_pow_left (by rw [B_lit]; decide) m
  rw [← Nat.pow_mul] at h2
  exact Nat.lt_of_lt_of_le (Nat.lt_of_lt_of_le h1 h2) (Nat.pow_le_pow_right (by decide) (Nat.le_succ _))
def sWideT : List PVal → Option PVal
  | [.lst xs] => match decN xs with | some n => if len n ≤ 8000 then some (.str (Lib.decDigits n)) else none | none => none
  | _ => none
theorem sWideT_num {n : Nat} (h : len n ≤ 8000) : sWideT [.lst ((limbs n).map u64)] = some (.str (Lib.decDigits n)) := by
  simp only [sWideT, decN_num (show len n ≤ 100000 by omega)]
  rw [if_pos h]
def Twd : Tab := Tab.none.with 42 (pureS sQuotR)
theorem Twd_ok : TabOk Tryz.prog base Twd := Tab.with_ok Tab.none_ok rdiv_ok
theorem Twd_mu (f : FuncId) (a : List AVal) (H : Heap) : Twd.mu f a H = none := (rfl)
theorem Twd_fns : Twd.fn 42 = pureS sQuotR := (rfl)
theorem rwide_ok : FnOk Tryz.prog base 44 (pureS sWideT) := by
  refine pure_of_vc hmix Twd_ok globNone low44 fun args z hs hf => ?_
  unfold sWideT at hs
  split at hs
  case h_2 => cases hs
  rename_i xs
  split at hs
  case h_2 => cases hs
  rename_i n hn
  split at hs
  case isFalse => cases hs
  rename_i hl
  obtain ⟨rfl, _⟩ := decN_some hn
  cases hs
  refine ⟨by simp [lf44], ?_⟩
  by_cases h0 : n = 0
  · subst h0
    rw [limbs_zero, Lib.decDigits_one (by decide)]
    simp [lf44]
  have hL0 : (limbs n).length ≠ 0 := fun e => h0 (len_eq_zero.1 e)
  have hL0b : (((limbs n).length : Int) == 0) = false := beq_false_of_ne (by omega)
  have hD := dec_wide hl
  obtain ⟨D, hDe⟩ : ∃ D, D = Lib.decDigits n := ⟨_, rfl⟩
  rw [← hDe] at hD ⊢
  simp [lf44, hL0, hL0b]
  simp only [lf44_B0, vc_block]
  refine loop_ind (fun fr H => ∃ (m : Nat) (s : List UInt8), m ≤ n ∧ ((m ≠ 0 ∧ D = Lib.decDigits m ++ s) ∨ (m = 0 ∧ D = s)) ∧ fr 0 = .p (.lst ((limbs m).map u64)) ∧ fr 3 = .p (.str s)) (fun fr _ => mOf (fr 0)) ⟨n, [], Nat.le_refl _, .inl ⟨h0, by rw [List.append_nil]; exact hDe⟩, by simp, by simp⟩ ?_
  rintro fr H ⟨m, s, hm, hs, f0, f3⟩
  rcases hs with ⟨hm0, hs⟩ | ⟨rfl, rfl⟩
  · have hlm : 0 < (limbs m).length := by have : (limbs m).length ≠ 0 := fun e => hm0 (len_eq_zero.1 e); omega
    have hmn : len m ≤ 8000 := Nat.le_trans (len_mono hm) hl
    have Q := sQuotR_num (a := m) (b := 10) (by omega) (Nat.le_trans (len_small (by omega)) (by omega)) (by decide)
    rw [limbs_small (n := 10) (by decide) (by rw [B_lit]; decide)] at Q
    obtain ⟨d1, d2⟩ := dec_step hm0 hs
    have hsl : 1 + s.length ≤ maxLen := by
      have : D.length = (Lib.decDigits m).length + s.length := by rw [hs, List.length_append]
      unfold maxLen
      omega
    have h10 : m % 10 < 10 := Nat.mod_lt _ (by decide)
    have hq : m / 10 < m := Nat.div_lt_self (by omega) (by decide)
    have e1 := mOf_num (m := m) (by omega)
    have e2 := mOf_num (m := m / 10) (Nat.le_trans (len_mono (Nat.le_of_lt hq)) (by omega))
    obtain ⟨q, hqe⟩ : ∃ q, q = m / 10 := ⟨_, rfl⟩
    obtain ⟨d, hde⟩ : ∃ d, d = m % 10 := ⟨_, rfl⟩
    rw [← hqe] at Q d1 d2 hq e2
    rw [← hde] at Q d1 d2 h10
    simp at Q
    by_cases hd : d = 0
    · subst hd
      rw [limbs_zero] at Q
      simp at Q
      have hby : bytesOf [.p (.int .u8 48)] = some [digit 0] := by simp [bytesOf, digit]
      simp [f0, f3, hlm, Q, hby, hsl, fillS, binS, Twd_mu, Twd_fns]
      refine ⟨⟨q, by omega, ?_, rfl⟩, by rw [e2, e1]; exact hq⟩
      by_cases h : q = 0
      · exact .inr ⟨h, d2 h⟩
      · exact .inl ⟨h, d1 h⟩
    · rw [limbs_small hd (by rw [B_lit]; omega)] at Q
      simp at Q
      have hv : IntKind.u8.wrap (48 + IntKind.u8.wrap (d : Int)) = ((digit d).toNat : Int) := by
        rw [digit_val h10, IntWalk.u8_in (d : Int) (by omega)]
        exact IntWalk.u8_in _ (by omega)
      have hby : bytesOf [.p (.int .u8 (digit d).toNat)] = some [digit d] := by simp [bytesOf]
      simp [f0, f3, hlm, Q, hv, hby, hsl, fillS, binS, Twd_mu, Twd_fns]
      refine ⟨⟨q, by omega, ?_, rfl⟩, by rw [e2, e1]; exact hq⟩
      by_cases h : q = 0
      · exact .inr ⟨h, d2 h⟩
      · exact .inl ⟨h, d1 h⟩
  · rw [limbs_zero] at f0
    simp [f0, f3]
end Go.Proofs.YtgdpephlpdonnaaGreatDoor

/-
  The reference: terms of fractions.
-/
namespace Go.Proofs.YtgdpephlpdonnaaGreatDoor
open Go Go.Abs Go.Limbs
variable {base : Prot}
set_option maxRecDepth 20000
attribute [local irreducible] vc
attribute [local simp] pureS touchV freezeL fuel shiftV u64 au
def Trsh : Tab := ((((Tab.none.with 41 (pureS (f1 boolF))).with 31 (pureS sOne)).with 43 (pureS sOrder)).with 48 (pureS sText)).with 47 (pureS (f1 negP))
theorem Trsh_ok : TabOk Tryz.prog base2 Trsh := Tab.with_ok (Tab.with_ok (Tab.with_ok (Tab.with_ok (Tab.with_ok Tab.none_ok rvalidR_ok) rone_ok) rcmp_ok) rtext_ok) rNeg_ok
theorem Trsh_mu (f : FuncId) (a : List AVal) (H : Heap) : Trsh.mu f a H = none := (rfl)
theorem Trsh_fns : Trsh.fn 41 = pureS (f1 boolF) ∧ Trsh.fn 31 = pureS sOne ∧ Trsh.fn 43 = pureS sOrder ∧ Trsh.fn 48 = pureS sText ∧ Trsh.fn 47 = pureS (f1 negP) := ⟨rfl, rfl, rfl, rfl, rfl⟩
theorem rshowN_walk {T : Tab} (hmu : ∀ f a H, T.mu f a H = none) (hv : T.fn 41 = pureS (f1 boolF)) (ho : T.fn 31 = pureS sOne) (hd : T.fn 43 = pureS sOrder) (ht : T.fn 48 = pureS sText)
    {p : Rat} (hp : Sm 64 p) (h0 : ¬ p.num < 0) : vc T lf13.body (endQ T lf13.results (.str (showN p.num.natAbs p.den))) (initFr ([(ofQ p).enc].map AVal.p)) [] := by
  have v1 := vF (wf_ofQ p)
  rw [ok_ofQ hp] at v1
  have o1 : sOne [] = some (.lst [.int .u64 1]) := rfl
  have hpd := hp.2
  have c1 : sOrder [.lst ((ofQ p).d.map u64), .lst [.int .u64 1]] = some (.int .i64 (cmpI p.den 1)) := sOrder_one (n := p.den) (by omega)
  have e1 := cmpI_one (n := p.den)
  have t1 : sText [.lst ((ofQ p).n.map u64)] = some (.str (Lib.decDigits p.num.natAbs)) := sText_num hp.1
  have t2 : sText [.lst ((ofQ p).d.map u64)] = some (.str (Lib.decDigits p.den)) := sText_num hp.2
  have L1 := dec_1280 hp.1
  have L2 := dec_1280 hp.2
  have hs : (ofQ p).s = false := decide_eq_false h0
  obtain ⟨r, hr⟩ : ∃ r, r = cmpI p.den 1 := ⟨_, rfl⟩
  rw [← hr] at c1 e1
  unfold showN
  obtain ⟨A, hA⟩ : ∃ t, t = Lib.decDigits p.num.natAbs := ⟨_, rfl⟩
  obtain ⟨D, hD⟩ : ∃ t, t = Lib.decDigits p.den := ⟨_, rfl⟩
  rw [← hA] at t1 L1 ⊢
  rw [← hD] at t2 L2 ⊢
  have m1 : A.length + 2 ≤ maxLen := by unfold maxLen; omega
  have m2 : 3 + A.length ≤ maxLen := by unfold maxLen; omega
  have m3 : A.length + 1 + 1 + 1 + 3 ≤ maxLen := by unfold maxLen; omega
  have m4 : A.length + 3 + 1 + 1 + 1 + D.length ≤ maxLen := by unfold maxLen; omega
  have m5 : A.length + (D.length + 1 + 1 + 1) + 1 + 1 + 1 + 3 ≤ maxLen := by unfold maxLen; omega
  simp only [Fr.enc, hs] at v1 ⊢
  by_cases hd1 : p.den = 1
  · rw [if_pos hd1]
    rw [decide_eq_true hd1] at e1
    simp [lf13, fillS, v1, o1, c1, e1, t1, binS, m1, hmu, hv, ho, hd, ht]
  · rw [if_neg hd1]
    rw [decide_eq_false hd1] at e1
    simp [lf13, fillS, v1, o1, c1, e1, t1, t2, binS, m1, m2, m3, m4, m5, hmu, hv, ho, hd, ht]
theorem rshow0_ok : FnOk Tryz.prog base2 13 (pureS sShow0) := by
  refine pure_of_vc hmix Trsh_ok globNone low13 fun args z hs hf => ?_
  unfold sShow0 at hs
  split at hs
  case h_2 => cases hs
  rename_i v
  split at hs
  case h_2 => cases hs
  rename_i x hx
  obtain ⟨rfl, wx⟩ := decF_some hx
  split at hs
  case isFalse => cases hs
  rename_i hc
  cases hs
  obtain ⟨p, hp, rfl⟩ := Fr.ok_of hc.1
  refine ⟨by simp [lf13], ?_⟩
  have h0 : ¬ p.num < 0 := of_decide_eq_false hc.2
  have e : showN (val (ofQ p).n) (val (ofQ p).d) = showN p.num.natAbs p.den := by
    show showN (val (limbs p.num.natAbs)) (val (limbs p.den)) = _
    rw [val_limbs, val_limbs]
  rw [e]
  exact rshowN_walk Trsh_mu Trsh_fns.1 Trsh_fns.2.1 Trsh_fns.2.2.1 Trsh_fns.2.2.2.1 hp h0
def Trsw : Tab := Trsh.with 13 (pureS sShow0)
theorem Trsw_ok : TabOk Tryz.prog base2 Trsw := Tab.with_ok Trsh_ok rshow0_ok
theorem Trsw_mu (f : FuncId) (a : List AVal) (H : Heap) : Trsw.mu f a H = none := (rfl)
theorem Trsw_fns : Trsw.fn 41 = pureS (f1 boolF) ∧ Trsw.fn 31 = pureS sOne ∧ Trsw.fn 43 = pureS sOrder ∧ Trsw.fn 48 = pureS sText ∧ Trsw.fn 47 = pureS (f1 negP) ∧ Trsw.fn 13 = pureS sShow0 := ⟨rfl, rfl, rfl, rfl, rfl, rfl⟩
theorem rshow_ok : FnOk Tryz.prog base2 13 (pureS (f1 showF)) := by
  refine pure_of_vc hmix Trsw_ok globNone low13 fun args z hs hf => ?_
  obtain ⟨x, wx, rfl, rfl⟩ := f1_some hs
  refine ⟨by simp [lf13], ?_⟩
  have v1 := vF wx
  unfold showF
  cases ox : x.ok with
  | false => rw [ox] at v1; simp only [Fr.enc] at v1 ⊢; simp [lf13, fillS, v1, Trsw_mu, Trsw_fns]
  | true =>
    rw [ox] at v1
    obtain ⟨p, hp, rfl⟩ := Fr.ok_of ox
    rw [if_pos rfl, q_ofQ]
    unfold showQ
    by_cases h0 : p.num < 0
    · rw [if_pos h0]
      have N := negP_num hp
      have hn : ¬ (-p).num < 0 := by rw [Rat.neg_num]; omega
      have S := sShow0_num (Sm_neg hp) hn
      rw [Rat.neg_num, Rat.neg_den, Int.natAbs_neg] at S
      have L := showN_len hp.1 hp.2
      obtain ⟨A, hA⟩ : ∃ t, t = showN p.num.natAbs p.den := ⟨_, rfl⟩
      rw [← hA] at S L ⊢
      have m1 : 3 + A.length ≤ maxLen := by unfold maxLen; omega
      have m2 : A.length + 1 + 1 + 1 ≤ maxLen := by unfold maxLen; omega
      have m3 : A.length + 1 + 1 + 1 + 1 ≤ maxLen := by unfold maxLen; omega
      have m4 : A.length + 1 ≤ maxLen := by unfold maxLen; omega
      have hsg : (ofQ p).s = true := decide_eq_true h0
      obtain ⟨m, hm⟩ : ∃ m, m = -p := ⟨_, rfl⟩
      rw [← hm] at N S
      simp only [Fr.enc, hsg] at v1 N S ⊢
      simp [lf13, fillS, v1, N, S, binS, m1, m2, m3, m4, Trsw_mu, Trsw_fns]
    · rw [if_neg h0]
      exact rshowN_walk Trsw_mu Trsw_fns.1 Trsw_fns.2.1 Trsw_fns.2.2.1 Trsw_fns.2.2.2.1 hp h0
end Go.Proofs.YtgdpephlpdonnaaGreatDoor

/-
  The reference: reading of decimals.
-/
namespace Go.Proofs.YtgdpephlpdonnaaGreatDoor
open Go Go.Abs Go.Limbs
variable {base : Prot}
set_option maxRecDepth 20000
attribute [local irreducible] vc
attribute [local simp] pureS touchV freezeL fuel shiftV u64 au
def sPDec : List PVal → Option PVal
  | [.str s] => if s.length ≤ 300 then some (pairF (parseR2 s)) else none
  | _ => none
theorem sPDec_at {s : List UInt8} (h : s.length ≤ 300) : sPDec [.str s] = some (pairF (parseR2 s)) := if_pos h
def Tpde : Tab := (((((Tab.none.with 29 (pureS sNumR)).with 30 (pureS sPRat)).with 31 (pureS sOne)).with 32 (pureS sSmall)).with 34 (pureS sMade)).with 33 (pureS (f1 fitP))
theorem Tpde_ok : TabOk Tryz.prog base Tpde := Tab.with_ok (Tab.with_ok (Tab.with_ok (Tab.with_ok (Tab.with_ok (Tab.with_ok Tab.none_ok rnum_ok) rprat_ok) rone_ok) small_ok) rmade_ok) rfitsR_ok
theorem Tpde_mu (f : FuncId) (a : List AVal) (H : Heap) : Tpde.mu f a H = none := (rfl)
theorem Tpde_fns : Tpde.fn 29 = pureS sNumR ∧ Tpde.fn 30 = pureS sPRat ∧ Tpde.fn 31 = pureS sOne ∧ Tpde.fn 32 = pureS sSmall ∧ Tpde.fn 34 = pureS sMade ∧ Tpde.fn 33 = pureS (f1 fitP) := ⟨rfl, rfl, rfl, rfl, rfl, rfl⟩
def bq : Ent := ⟨3, 0, false, [.agg [.p (.bool false), .tight [], .tight []]], 24⟩
theorem cutU_cons (c : UInt8) (r : List UInt8) : (c = 46 → cutU 46 (c :: r) = []) ∧ (c ≠ 46 → cutU 46 (c :: r) = c :: cutU 46 r) := by
  unfold cutU
  constructor
  · intro h; subst h; simp
  · intro h; simp [h]
/-- Where the first point stands. -/
theorem dot_loop {s : List UInt8} (hl : s.length ≤ 300) {Q : LExit → AFr → Heap → Prop} {fr : AFr} (h0 : fr 0 = .p (.str s)) (h2 : fr 2 = .optr 0 0 0 0) (h3 : fr 3 = .p (.int .i64 0)) (h4 : fr 4 = .p (.int .i64 s.length)) (h5 : fr 5 = .p (.int .i64 ((s.length : Int) - 1)))
    (hq : ∀ fr' : AFr, fr' 0 = .p (.str s) → fr' 2 = .optr 0 0 0 0 → fr' 3 = .p (.int .i64 0) → fr' 4 = .p (.int .i64 ((cutU 46 s).length : Nat)) → Q .normal fr' [bq]) : vc Tpde lf8_B0 Q fr [bq] := by
  simp only [lf8_B0, vc_block]
  refine loop_ind (fun fr2 H2 => H2 = [bq] ∧ fr2 0 = .p (.str s) ∧ fr2 2 = .optr 0 0 0 0 ∧ fr2 3 = .p (.int .i64 0) ∧ ∃ n : Nat, n ≤ s.length ∧ fr2 4 = .p (.int .i64 ((n + (cutU 46 (s.drop n)).length : Nat) : Int)) ∧ fr2 5 = .p (.int .i64 ((n : Int) - 1))) (fun fr2 _ => dvar (fr2 5))
    ⟨rfl, h0, h2, h3, s.length, Nat.le_refl _, by rw [h4, List.drop_length]; rfl, h5⟩ ?_
  rintro fr2 H2 ⟨rfl, g0, g2, g3, n, hn, g4, g5⟩
  by_cases hn0 : 0 < n
  · obtain ⟨j, rfl⟩ : ∃ j, n = j + 1 := ⟨n - 1, by omega⟩
    have e5 : (((j + 1 : Nat) : Int) - 1) = (j : Int) := by omega
    rw [e5] at g5
    obtain ⟨c, hc⟩ : ∃ c, s[j]? = some c := ⟨_, List.getElem?_eq_getElem (by omega)⟩
    have hdr : s.drop j = c :: s.drop (j + 1) := by
      rw [List.drop_eq_getElem_cons (by omega), getE hc]
    obtain ⟨u1, u2⟩ := cutU_cons c (s.drop (j + 1))
    rw [← hdr] at u1 u2
    have hw : IntKind.i64.wrap ((j : Int) - 1) = (j : Int) - 1 := IntWalk.i64_in _ (by omega)
    have hj : j < s.length := by omega
    have hcx := getE hc
    obtain ⟨L, hL⟩ : ∃ L, L = (cutU 46 (s.drop (j + 1))).length := ⟨_, rfl⟩
    rw [← hL] at g4
    by_cases hp : c = 46
    · subst hp
      have e := u1 rfl
      simp [g0, g2, g3, g4, g5, hj, hcx, hw, binS, dvar]
      exact ⟨j, by omega, by rw [e]; simp, rfl⟩
    · have e := u2 hp
      have h46 : ((c.toNat : Int) == 46) = false := beq_false_of_ne (fun e => hp (UInt8.toNat_inj.1 (by show c.toNat = 46; omega)))
      simp [g0, g2, g3, g4, g5, hj, hcx, h46, hw, binS, dvar]
      exact ⟨j, by omega, by rw [e, List.length_cons, ← hL]; omega, rfl⟩
  · have : n = 0 := by omega
    subst this
    rw [List.drop_zero, Nat.zero_add] at g4
    simp [g0, g2, g3, g4, g5, binS]
    exact hq _ (by simp [g0]) (by simp [g2]) (by simp [g3]) (by simp [g4])
/-- The digits, all but the point. -/
def preD (U D : List UInt8) (i : Nat) : List UInt8 := U.take i ++ D.take (i - (U.length + 1))
theorem dig_loop {U D : List UInt8} (hU : U.all isD = true) (hU0 : 0 < U.length) (hl : (U ++ 46 :: D).length ≤ 300) {Q : LExit → AFr → Heap → Prop} {fr : AFr} (h0 : fr 0 = .p (.str (U ++ 46 :: D))) (h2 : fr 2 = .optr 0 0 0 0) (h3 : fr 3 = .p (.int .i64 0)) (h4 : fr 4 = .p (.int .i64 (U.length : Nat)))
    (h7 : fr 7 = .tight []) (h8 : fr 8 = .p (.lst [.int .u64 1])) (h9 : fr 9 = .p (.int .i64 0))
    (hb : ∀ fr' : AFr, D.all isD = false → fr' 2 = .optr 0 0 0 0 → fr' 3 = .p (.int .i64 2) → Q .ret fr' [bq])
    (hq : ∀ fr' : AFr, D.all isD = true → fr' 2 = .optr 0 0 0 0 → fr' 7 = .p (.lst ((limbs (numD 0 (U ++ D))).map u64)) → fr' 8 = .p (.lst ((limbs (10 ^ D.length)).map u64)) → Q .normal fr' [bq]) : vc Tpde lf8_B1 Q fr [bq] := by
  simp only [lf8_B1, vc_block]
  obtain ⟨s, hs⟩ : ∃ s, s = U ++ 46 :: D := ⟨_, rfl⟩
  have hL : s.length = U.length + 1 + D.length := by rw [hs]; simp; omega
  rw [← hs] at h0 hl
  have hl1 : limbs 1 = [1] := limbs_small (by decide) (by rw [B_lit]; decide)
  refine loop_ind (fun fr2 H2 => H2 = [bq] ∧ fr2 0 = .p (.str s) ∧ fr2 2 = .optr 0 0 0 0 ∧ fr2 3 = .p (.int .i64 0) ∧ fr2 4 = .p (.int .i64 (U.length : Nat)) ∧ ∃ i m : Nat, i ≤ s.length ∧ (preD U D i).all isD = true ∧ m = numD 0 (preD U D i) ∧ (fr2 7 = .p (.lst ((limbs m).map u64)) ∨ (i = 0 ∧ m = 0 ∧ fr2 7 = .tight [])) ∧
      fr2 8 = .p (.lst ((limbs (10 ^ (i - (U.length + 1)))).map u64)) ∧ fr2 9 = .p (.int .i64 i)) (fun fr2 _ => s.length - ivar (fr2 9))
    ⟨rfl, h0, h2, h3, h4, 0, 0, by omega, by simp [preD], by simp [preD]; rfl, .inr ⟨rfl, rfl, h7⟩, by rw [h8, Nat.zero_sub, Nat.pow_zero, hl1]; rfl, h9⟩ ?_
  rintro fr2 H2 ⟨rfl, g0, g2, g3, g4, i, m, hi, hall, hm, g7, g8, g9⟩
  by_cases hlt : i < s.length
  · have hw := wrap_succ (i := i) (by omega)
    by_cases hk : i = U.length
    · -- the point
      have e1 : preD U D (i + 1) = preD U D i := by
        unfold preD
        rw [hk, List.take_of_length_le (Nat.le_refl _), List.take_of_length_le (Nat.le_succ _)]
        simp
      have e2 : i + 1 - (U.length + 1) = i - (U.length + 1) := by omega
      have g9' : fr2 9 = .p (.int .i64 (U.length : Nat)) := by rw [g9, hk]
      have hltU : U.length < s.length := by omega
      rw [hk] at hw
      simp [g0, g2, g3, g4, g9', hltU, hw, binS, ivar]
      refine ⟨⟨i + 1, by omega, ?_, ?_, ?_, by omega⟩, by omega⟩
      · rw [e1]; exact List.all_eq_true.1 hall
      · left
        rcases g7 with g7 | ⟨rfl, rfl, g7⟩
        · rw [e1, ← hm]; exact g7
        · omega
      · rw [e2, g8]
    · obtain ⟨c, hc, hpre, hcU⟩ : ∃ c, s[i]? = some c ∧ preD U D (i + 1) = preD U D i ++ [c] ∧ (i < U.length → c ∈ U) ∧ (U.length < i → c ∈ D) := by
        by_cases hik : i < U.length
        · obtain ⟨c, hc⟩ : ∃ c, U[i]? = some c := ⟨_, List.getElem?_eq_getElem hik⟩
          refine ⟨c, by rw [hs, List.getElem?_append_left hik]; exact hc, ?_, fun _ => List.mem_of_getElem? hc, fun h => by omega⟩
          unfold preD
          rw [take_succ_get hc, show i + 1 - (U.length + 1) = 0 by omega, show i - (U.length + 1) = 0 by omega, List.take_zero, List.append_nil, List.append_nil]
        · obtain ⟨j, hj⟩ : ∃ j, i = U.length + 1 + j := ⟨i - U.length - 1, by omega⟩
          obtain ⟨c, hc⟩ : ∃ c, D[j]? = some c := ⟨_, List.getElem?_eq_getElem (by omega)⟩
          refine ⟨c, ?_, ?_, fun h => by omega, fun _ => List.mem_of_getElem? hc⟩
          · rw [hs, List.getElem?_append_right (by omega), show i - U.length = j + 1 by omega, List.getElem?_cons_succ]; exact hc
          · unfold preD
            rw [List.take_of_length_le (show U.length ≤ i + 1 by omega), List.take_of_length_le (show U.length ≤ i by omega), show i + 1 - (U.length + 1) = j + 1 by omega, show i - (U.length + 1) = j by omega, take_succ_get hc, List.append_assoc]
      have hcx := getE hc
      have hkb : ((i : Int) == (U.length : Int)) = false := beq_false_of_ne (by omega)
      by_cases hd : isD c = true
      · obtain ⟨hlo, hhi⟩ := isD_bound hd
        have h48 : ¬ (c.toNat : Int) < 48 := by omega
        have h57 : ¬ (57 : Int) < c.toNat := by omega
        obtain ⟨d, hdd⟩ : ∃ d, d = c.toNat - 48 := ⟨_, rfl⟩
        have hdB : d < B := by rw [B_lit]; omega
        have hw2 : IntKind.u8.wrap ((c.toNat : Int) - 48) = (d : Int) := by rw [IntWalk.u8_in _ (by omega)]; omega
        have hw3 : IntKind.u64.wrap (d : Int) = (d : Int) := wrap_u hdB
        have hall2 : (preD U D (i + 1)).all isD = true := by rw [hpre, List.all_append, hall]; simp [hd]
        have hnum : numD 0 (preD U D (i + 1)) = m * 10 + d := by rw [hpre, numD_snoc, ← hm, hdd]
        have hpl : (preD U D i).length ≤ 300 := by unfold preD; simp; omega
        have hlm : len m ≤ 64 := by rw [hm]; exact numD_len hall (by omega)
        have hS := sSmall_num (a := m) (k := 10) (c := d) (by omega) (by decide) (by decide) hdB
        rw [show ((10 : Nat) : Int) = 10 from rfl] at hS
        obtain ⟨q, hq2⟩ : ∃ q, q = m * 10 + d := ⟨_, rfl⟩
        rw [← hq2] at hS hnum
        have hj := len_pow10 (i - (U.length + 1))
        have hS8 := sSmall_num (a := 10 ^ (i - (U.length + 1))) (k := 10) (c := 0) (by omega) (by decide) (by decide) (by decide)
        rw [Nat.add_zero, ← Nat.pow_succ] at hS8
        rw [show ((10 : Nat) : Int) = 10 from rfl, show ((0 : Nat) : Int) = 0 from rfl] at hS8
        have g7' : fr2 7 = .p (.lst ((limbs m).map u64)) ∨ (m = 0 ∧ fr2 7 = .tight []) := g7.imp id fun h => h.2
        obtain ⟨p, hp⟩ : ∃ p, p = 10 ^ (i - (U.length + 1)) := ⟨_, rfl⟩
        obtain ⟨p', hp'⟩ : ∃ p', p' = 10 ^ ((i - (U.length + 1)).succ) := ⟨_, rfl⟩
        rw [← hp] at g8 hS8
        rw [← hp'] at hS8
        by_cases hik : i < U.length
        · have hgt : ¬ (U.length < i) := by omega
          have e8 : p = 10 ^ (i + 1 - (U.length + 1)) := by rw [hp]; congr 1; omega
          rcases g7' with g7 | ⟨rfl, g7z⟩
          · simp [g0, g2, g3, g4, g7, g8, g9, hlt, hcx, hk, hkb, h48, h57, hw, hw2, hw3, hS, hgt, binS, ivar, Tpde_mu, Tpde_fns]
            exact ⟨⟨i + 1, by omega, List.all_eq_true.1 hall2, by rw [hnum], by rw [e8], by omega⟩, by omega⟩
          · rw [limbs_zero] at hS
            simp only [List.map_nil] at hS
            simp [g0, g2, g3, g4, g7z, g8, g9, hlt, hcx, hk, hkb, h48, h57, hw, hw2, hw3, hS, hgt, binS, ivar, Tpde_mu, Tpde_fns]
            exact ⟨⟨i + 1, by omega, List.all_eq_true.1 hall2, by rw [hnum], by rw [e8], by omega⟩, by omega⟩
        · have hgt : U.length < i := by omega
          have e8 : p' = 10 ^ (i + 1 - (U.length + 1)) := by rw [hp']; congr 1; omega
          rcases g7' with g7 | ⟨rfl, g7z⟩
          · simp [g0, g2, g3, g4, g7, g8, g9, hlt, hcx, hk, hkb, h48, h57, hw, hw2, hw3, hS, hS8, hgt, binS, ivar, Tpde_mu, Tpde_fns]
            exact ⟨⟨i + 1, by omega, List.all_eq_true.1 hall2, by rw [hnum], by rw [e8], by omega⟩, by omega⟩
          · rw [limbs_zero] at hS
            simp only [List.map_nil] at hS
            simp [g0, g2, g3, g4, g7z, g8, g9, hlt, hcx, hk, hkb, h48, h57, hw, hw2, hw3, hS, hS8, hgt, binS, ivar, Tpde_mu, Tpde_fns]
            exact ⟨⟨i + 1, by omega, List.all_eq_true.1 hall2, by rw [hnum], by rw [e8], by omega⟩, by omega⟩
      · have hdf : isD c = false := by simpa using hd
        have hgt : U.length < i := by
          rcases Nat.lt_or_gt_of_ne hk with h | h
          · have := List.all_eq_true.1 hU c (hcU.1 h)
            rw [hdf] at this
            cases this
          · exact h
        have hDf : D.all isD = false := by
          cases h : D.all isD with
          | false => rfl
          | true =>
            have := List.all_eq_true.1 h c (hcU.2 hgt)
            rw [hdf] at this
            cases this
        by_cases h48 : (c.toNat : Int) < 48
        · simp [g0, g2, g3, g4, g9, hlt, hcx, hk, hkb, h48, binS, bq, fillS]
          exact hb _ hDf (by simp [g2]) (by simp)
        · have h57 : (57 : Int) < c.toNat := by
            by_cases h57 : (57 : Int) < c.toNat
            · exact h57
            · exfalso
              unfold isD at hdf
              have : ¬ (48 ≤ c.toNat ∧ c.toNat < 58) := by simpa using hdf
              omega
          simp [g0, g2, g3, g4, g9, hlt, hcx, hk, hkb, h48, h57, binS, bq, fillS]
          exact hb _ hDf (by simp [g2]) (by simp)
  · have hil : i = s.length := by omega
    subst hil
    have e1 : preD U D s.length = U ++ D := by
      unfold preD
      rw [List.take_of_length_le (by omega), List.take_of_length_le (by omega)]
    have e2 : s.length - (U.length + 1) = D.length := by omega
    rw [e1] at hall hm
    rw [e2] at g8
    have hD : D.all isD = true := by rw [List.all_append, Bool.and_eq_true] at hall; exact hall.2
    rcases g7 with g7 | ⟨h0, _⟩
    · subst hm
      simp [g0, g2, g9]
      exact hq _ hD (by simp [g2]) (by simp [g7]) (by simp [g8])
    · omega
theorem cut_split : ∀ {s : List UInt8}, cutB 46 s = true → s = cutU 46 s ++ 46 :: cutD 46 s
  | [], h => by cases h
  | c :: r, h => by
    by_cases hc : c = 46
    · subst hc; simp [cutU, cutD]
    · have ih := @cut_split r
      unfold cutU cutD cutB at *
      simp [hc] at h ih ⊢
      exact ih h
theorem numS_U {s : List UInt8} (h : numS s = true) : s.all isD = true ∧ 0 < s.length := by
  obtain ⟨h0, h1⟩ := (digS_iff s).1 (numS_digS h)
  exact ⟨h1, List.length_pos_iff.2 h0⟩
theorem rpdec_ok : FnOk Tryz.prog base 8 (pureS sPDec) := by
  refine pure_of_vc hmix Tpde_ok globNone low8 fun args z hs hf => ?_
  unfold sPDec at hs
  split at hs
  case h_2 => cases hs
  rename_i s
  split at hs
  case isFalse => cases hs
  rename_i hl
  cases hs
  refine ⟨by simp [lf8], ?_⟩
  have hw : IntKind.i64.wrap ((s.length : Int) - 1) = (s.length : Int) - 1 := IntWalk.i64_in _ (by omega)
  obtain ⟨l1, l2⟩ := cut_lens s
  have N := sNumR_at (s := cutU 46 s) (by omega)
  simp [lf8, hw, fillS]
  refine dot_loop hl (by simp) (by simp) (by simp) (by simp) (by simp) fun fr1 a0 a2 a3 a4 => ?_
  have hz : zF.enc = .agg [.bool false, .lst [], .lst []] := rfl
  rcases idx_spec 46 s with ⟨i1, _, i3, i4⟩ | ⟨i1, _, i3, i4, i5⟩
  · rw [i3] at a4 N
    unfold parseR2
    rw [i1, i3]
    cases hn : numS s with
    | false =>
      rw [hn] at N
      simp [a0, a2, a3, a4, N, bq, binS, pairF, hz, fillS, Tpde_mu, Tpde_fns]
    | true =>
      rw [hn] at N
      have R := sPRat_at (numS_digS hn) hl
      obtain ⟨hall, _⟩ := numS_U hn
      have hlen := numD_len hall (by omega)
      have hS : Sm 64 ((numD 0 s : Nat) : Rat) := ⟨hlen, by show len 1 ≤ 64; exact Nat.le_trans (len_small (by decide)) (by decide)⟩
      have hq : mkRat (zOf false (numD 0 s)) 1 = ((numD 0 s : Nat) : Rat) := Rat.mkRat_one ..
      rw [if_pos rfl, if_neg (by simp), hq, heldQ_ok hS]
      obtain ⟨n, hnn⟩ : ∃ n, n = numD 0 s := ⟨_, rfl⟩
      rw [← hnn] at R ⊢
      simp only [pairF] at R ⊢
      rw [ofQ_nat] at R ⊢
      simp [a0, a2, a3, a4, N, R, bq, binS, fillS, Tpde_mu, Tpde_fns]
  · unfold parseR2
    rw [i1]
    cases hn : numS (cutU 46 s) with
    | false =>
      rw [hn] at N
      simp [a0, a2, a3, a4, N, i4, l1, bq, binS, pairF, hz, fillS, Tpde_mu, Tpde_fns]
    | true =>
      rw [hn] at N
      obtain ⟨hU, hU0⟩ := numS_U hn
      have hs := cut_split i1
      have hne : ¬ ((cutU 46 s).length : Int) = (s.length : Int) := by omega
      have hneN : ¬ (cutU 46 s).length = s.length := by omega
      have hneb : (((cutU 46 s).length : Int) == (s.length : Int)) = false := beq_false_of_ne hne
      have hw2 := wrap_succ (i := (cutU 46 s).length) (by omega)
      have hle : (cutU 46 s).length + 1 ≤ s.length := by omega
      rw [if_pos rfl, if_pos rfl]
      obtain ⟨U, hUe⟩ : ∃ U, U = cutU 46 s := ⟨_, rfl⟩
      obtain ⟨D, hDe⟩ : ∃ D, D = cutD 46 s := ⟨_, rfl⟩
      rw [← hUe] at N hU hU0 hs hne hneN hneb hw2 hle a4 i3 i4 i5 l1 ⊢
      rw [← hDe] at hs i5 l2 ⊢
      have hp0 : 0 ≤ (U.length : Int) + 1 := by omega
      have hp1 : (U.length : Int) + 1 ≤ (s.length : Int) := by omega
      by_cases hD0 : D = []
      · have hd : digS D = false := by rw [hD0]; rfl
        rw [hd, if_neg (by simp)]
        rw [hD0] at i5
        simp [a0, a2, a3, a4, N, i4, i5, l1, hw2, hle, hp0, hp1, hneN, hneb, bq, binS, pairF, hz, fillS, Tpde_mu, Tpde_fns]
      · have hDl : ¬ D.length = 0 := fun e => hD0 (List.length_eq_zero_iff.1 e)
        have hDb : ((D.length : Int) == 0) = false := beq_false_of_ne (by omega)
        have o : sOne [] = some (.lst [.int .u64 1]) := rfl
        simp [a0, a2, a3, a4, N, i4, i5, l1, hw2, hle, hp0, hp1, hneN, hneb, hD0, hDl, hDb, o, bq, binS, pairF, fillS, Tpde_mu, Tpde_fns]
        refine dig_loop (U := U) (D := D) hU hU0 (by rw [← hs]; exact hl) (by simp [a0]; exact hs) (by simp [a2]) (by simp [a3]) (by simp [a4]) (by simp) (by simp) (by simp) (fun fr2 hd b2 b3 => ?_) (fun fr2 hd b2 b7 b8 => ?_)
        · have hdg : digS D = false := by
            cases h : digS D with
            | false => rfl
            | true => rw [((digS_iff D).1 h).2] at hd; cases hd
          rw [hdg, if_neg (by simp)]
          simp [b2, b3, bq, hz]
        · have hdg : digS D = true := (digS_iff D).2 ⟨hD0, hd⟩
          rw [hdg, if_pos rfl]
          have hall : (U ++ D).all isD = true := by rw [List.all_append, hU, hd]; rfl
          have hlen : (U ++ D).length ≤ 300 := by rw [hs] at hl; simp at hl ⊢; omega
          have h64 := numD_len hall (by omega)
          have h10 := len_pow10 D.length
          have M := sMade_num false (a := numD 0 (U ++ D)) (b := 10 ^ D.length) (by omega) (by omega) (pow10_ne _)
          have F := fitP_num (mkRat (zOf false (numD 0 (U ++ D))) (10 ^ D.length))
          have hfr : fracS U D = mkRat (zOf false (numD 0 (U ++ D))) (10 ^ D.length) := rfl
          rw [hfr]
          obtain ⟨Q, hQ⟩ : ∃ Q, Q = mkRat (zOf false (numD 0 (U ++ D))) (10 ^ D.length) := ⟨_, rfl⟩
          rw [← hQ] at M F ⊢
          obtain ⟨P, hP⟩ : ∃ P, P = 10 ^ D.length := ⟨_, rfl⟩
          rw [← hP] at M b8
          obtain ⟨Y, hY⟩ : ∃ Y, Y = heldQ Q := ⟨_, rfl⟩
          rw [← hY] at F ⊢
          simp only [Fr.enc, pairF] at M F ⊢
          simp [b2, b7, b8, M, F, bq, fillS, Tpde_mu, Tpde_fns]
end Go.Proofs.YtgdpephlpdonnaaGreatDoor

/-
  The reference: exact decimals.
-/
namespace Go.Proofs.YtgdpephlpdonnaaGreatDoor
open Go Go.Abs Go.Limbs
variable {base : Prot}
set_option maxRecDepth 20000
attribute [local irreducible] vc
attribute [local simp] pureS touchV freezeL fuel shiftV u64 au
def Trex : Tab := ((((((Tab.none.with 41 (pureS (f1 boolF))).with 42 (pureS sQuotR)).with 31 (pureS sOne)).with 43 (pureS sOrder)).with 32 (pureS sSmall)).with 44 (pureS sWideT))
theorem Trex_ok : TabOk Tryz.prog base Trex := Tab.with_ok (Tab.with_ok (Tab.with_ok (Tab.with_ok (Tab.with_ok (Tab.with_ok Tab.none_ok rvalidR_ok) rdiv_ok) rone_ok) rcmp_ok) small_ok) rwide_ok
theorem Trex_mu (f : FuncId) (a : List AVal) (H : Heap) : Trex.mu f a H = none := (rfl)
theorem Trex_fns : Trex.fn 41 = pureS (f1 boolF) ∧ Trex.fn 42 = pureS sQuotR ∧ Trex.fn 31 = pureS sOne ∧ Trex.fn 43 = pureS sOrder ∧ Trex.fn 32 = pureS sSmall ∧ Trex.fn 44 = pureS sWideT := ⟨rfl, rfl, rfl, rfl, rfl, rfl⟩
theorem stripC_le {p n : Nat} (hp : 2 ≤ p) (hn : 0 < n) (hl : len n ≤ 64) : stripC p n n ≤ 4096 := by
  have e := strip_val p n n
  have hs : 0 < strip p n n := strip_pos hp n n hn
  have h1 : p ^ stripC p n n ≤ n := by
    have := Nat.le_mul_of_pos_right (p ^ stripC p n n) hs
    rw [← e] at this
    exact this
  have h2 : 2 ^ stripC p n n ≤ p ^ stripC p n n := Nat.pow_le_pow_left hp _
  have h3 : n < 2 ^ 4096 := by
    rw [← B64_pow]
    exact Nat.lt_of_lt_of_le (lt_len n) (Bpow_le hl)
  exact Nat.le_of_lt ((Nat.pow_lt_pow_iff_right (a := 2) (by decide)).1 (Nat.lt_of_le_of_lt (Nat.le_trans h2 h1) h3))
/-- One prime is taken out and counted. -/
theorem cnt_loop {b0 : Ent} {p n : Nat} (hp : p = 2 ∨ p = 5) (hn : 0 < n) (hl : len n ≤ 64) {ex : Heap} {Q : LExit → AFr → Heap → Prop} {fr : AFr} (h5 : fr 5 = .p (.lst ((limbs n).map u64))) (h8 : fr 8 = .p (.int .u64 (p : Int))) (h9 : fr 9 = .p (.int .i64 0))
    (hq : ∀ (fr' : AFr) (ex' : Heap), fr' 5 = .p (.lst ((limbs (strip p n n)).map u64)) → fr' 9 = .p (.int .i64 (stripC p n n : Nat)) → fr' 1 = fr 1 → fr' 4 = fr 4 → fr' 6 = fr 6 → fr' 7 = fr 7 → Q .normal fr' (b0 :: ex')) : vc Trex lf10_B0 Q fr (b0 :: ex) := by
  simp only [lf10_B0, vc_block]
  have hC := stripC_le (p := p) (by omega) hn hl
  refine loop_ind (fun fr2 H2 => fr2 8 = .p (.int .u64 (p : Int)) ∧ fr2 1 = fr 1 ∧ fr2 4 = fr 4 ∧ fr2 6 = fr 6 ∧ fr2 7 = fr 7 ∧ ∃ (ex2 : Heap) (f m t : Nat), H2 = b0 :: ex2 ∧ 0 < m ∧ len m ≤ 64 ∧ m ≤ f ∧ strip p f m = strip p n n ∧ t + stripC p f m = stripC p n n ∧ fr2 5 = .p (.lst ((limbs m).map u64)) ∧ fr2 9 = .p (.int .i64 (t : Int))) (fun fr2 _ => mOf (fr2 5))
    ⟨h8, rfl, rfl, rfl, rfl, ex, n, n, 0, rfl, hn, hl, Nat.le_refl _, rfl, Nat.zero_add _, h5, h9⟩ ?_
  rintro fr2 H2 ⟨g8, g1, g4, g6, g7, ex2, f, m, t, rfl, m0, ml, mf, ms, mt, g5, g9⟩
  have p2 : 2 ≤ p := by omega
  have p5 : p ≤ 5 := by omega
  have dv := sQuotR_num (a := m) (b := p) (by omega) (Nat.le_trans (len_small (by omega)) (by omega)) (by omega)
  rw [limbs_small (n := p) (by omega) (by rw [B_lit]; omega)] at dv
  obtain ⟨f', rfl⟩ : ∃ f', f = f' + 1 := ⟨f - 1, by omega⟩
  have hdl : len (m / p) ≤ 64 := Nat.le_trans (len_mono (Nat.div_le_self _ _)) ml
  simp at dv
  by_cases hd : m % p = 0
  · have hs : strip p (f' + 1) m = strip p f' (m / p) := by
      rw [strip, if_pos hd]
    have hc : stripC p (f' + 1) m = stripC p f' (m / p) + 1 := by
      rw [stripC, if_pos hd]
    rw [hs] at ms
    rw [hc] at mt
    rw [hd, limbs_zero] at dv
    have h1 : p ≤ m := Nat.le_of_dvd m0 (Nat.dvd_of_mod_eq_zero hd)
    have h2 : m / p < m := Nat.div_lt_self m0 (by omega)
    have h3 : 0 < m / p := Nat.div_pos h1 (by omega)
    have e1 := mOf_num (m := m) (by omega)
    have e2 := mOf_num (m := m / p) (by omega)
    have hw := wrap_succ (i := t) (by omega)
    obtain ⟨k, hk2⟩ : ∃ k, k = m / p := ⟨_, rfl⟩
    rw [← hk2] at dv ms mt h2 h3 e2 hdl
    simp at dv
    simp [g1, g4, g5, g6, g7, g8, g9, dv, hw, fillS, Trex_mu, Trex_fns]
    refine ⟨⟨⟨_, freeze1_cons _ _ _⟩, f', k, h3, hdl, by omega, ms, t + 1, by omega, rfl, by omega⟩, ?_⟩
    rw [e2, e1]
    exact h2
  · have hs : strip p (f' + 1) m = m := by
      rw [strip, if_neg hd]
    have hc : stripC p (f' + 1) m = 0 := by
      rw [stripC, if_neg hd]
    rw [hs] at ms
    rw [hc, Nat.add_zero] at mt
    have hr : 0 < (limbs (m % p)).length := by
      have : (limbs (m % p)).length ≠ 0 := fun e => hd (len_eq_zero.1 e)
      omega
    obtain ⟨r, hrr⟩ : ∃ r, r = limbs (m % p) := ⟨_, rfl⟩
    obtain ⟨k, hk2⟩ : ∃ k, k = m / p := ⟨_, rfl⟩
    rw [← hrr] at dv hr
    rw [← hk2] at dv
    simp [g1, g4, g5, g6, g7, g8, g9, dv, hr, fillS, Trex_mu, Trex_fns]
    rw [freeze1_cons]
    exact hq _ _ (by simp [g5, ms]) (by simp [g9, mt]) (by simp [g1]) (by simp [g4]) (by simp [g6]) (by simp [g7])
/-- Both primes; how many digits behind the point. -/
theorem both2_loop {b0 : Ent} {n : Nat} (hn : 0 < n) (hl : len n ≤ 64) {ex : Heap} {Q : LExit → AFr → Heap → Prop} {fr : AFr} (h5 : fr 5 = .p (.lst ((limbs n).map u64))) (h6 : fr 6 = .p (.int .i64 0)) (h7 : fr 7 = .p (.int .i64 0))
    (hq : ∀ (fr' : AFr) (ex' : Heap) (k : Nat), len k ≤ 64 → fr' 5 = .p (.lst ((limbs k).map u64)) → decide (k = 1) = plainN n → fr' 6 = .p (.int .i64 (places n : Nat)) → fr' 1 = fr 1 → fr' 4 = fr 4 → Q .normal fr' (b0 :: ex')) : vc Trex lf10_B1 Q fr (b0 :: ex) := by
  have s1 := strip_pos (p := 2) (by omega) n n hn
  have l1 : len (strip 2 n n) ≤ 64 := Nat.le_trans (len_mono (strip_le n n)) hl
  have l2 : len (strip 5 (strip 2 n n) (strip 2 n n)) ≤ 64 := Nat.le_trans (len_mono (strip_le _ _)) l1
  have hpl : decide (strip 5 (strip 2 n n) (strip 2 n n) = 1) = plainN n := rfl
  have C2 := stripC_le (p := 2) (by omega) hn hl
  have C5 := stripC_le (p := 5) (by omega) s1 l1
  have hP : places n = max (stripC 2 n n) (stripC 5 (strip 2 n n) (strip 2 n n)) := rfl
  obtain ⟨m, hm⟩ : ∃ m, m = strip 2 n n := ⟨_, rfl⟩
  rw [← hm] at s1 l1 l2 hpl C5 hP
  obtain ⟨k, hk⟩ : ∃ k0, k0 = strip 5 m m := ⟨_, rfl⟩
  rw [← hk] at hpl l2
  obtain ⟨c, hc⟩ : ∃ c, c = stripC 2 n n := ⟨_, rfl⟩
  obtain ⟨e, he⟩ : ∃ e, e = stripC 5 m m := ⟨_, rfl⟩
  rw [← hc] at C2 hP
  rw [← he] at C5 hP
  simp only [lf10_B1, vc_block]
  refine loop_ind (fun fr2 H2 => fr2 1 = fr 1 ∧ fr2 4 = fr 4 ∧ (∃ ex2 : Heap, H2 = b0 :: ex2) ∧ ((fr2 7 = .p (.int .i64 0) ∧ fr2 6 = .p (.int .i64 0) ∧ fr2 5 = .p (.lst ((limbs n).map u64))) ∨ (fr2 7 = .p (.int .i64 1) ∧ fr2 6 = .p (.int .i64 (c : Int)) ∧ fr2 5 = .p (.lst ((limbs m).map u64))) ∨ (fr2 7 = .p (.int .i64 2) ∧ fr2 6 = .p (.int .i64 (places n : Nat)) ∧ fr2 5 = .p (.lst ((limbs k).map u64)))))
    (fun fr2 _ => 2 - ivar (fr2 7)) ⟨rfl, rfl, ⟨ex, rfl⟩, .inl ⟨h7, h6, h5⟩⟩ ?_
  have w1 : IntKind.i64.wrap (0 + 1) = 1 := rfl
  have w2 : IntKind.i64.wrap (1 + 1) = 2 := rfl
  have w1' : IntKind.i64.wrap 1 = 1 := rfl
  have w2' : IntKind.i64.wrap 2 = 2 := rfl
  rintro fr2 H2 ⟨g1, g4, ⟨ex2, rfl⟩, ⟨g7, g6, g5⟩ | ⟨g7, g6, g5⟩ | ⟨g7, g6, g5⟩⟩
  · simp [g1, g4, g5, g6, g7, fillS]
    refine cnt_loop (p := 2) (n := n) (.inl rfl) hn hl (by simp [g5]) (by simp) (by simp) fun fr3 ex3 k5 k9 k1 k4 k6 k7 => ?_
    rw [← hm] at k5
    rw [← hc] at k9
    simp [g1, g4, g6, g7] at k1 k4 k6 k7
    simp [g1, g4, k1, k4, k5, k6, k7, k9, w1, w1', ivar]
    omega
  · simp [g1, g4, g5, g6, g7, fillS]
    refine cnt_loop (p := 5) (n := m) (.inr rfl) s1 l1 (by simp [g5]) (by simp) (by simp) fun fr3 ex3 k5 k9 k1 k4 k6 k7 => ?_
    rw [← hk] at k5
    rw [← he] at k9
    simp [g1, g4, g6, g7] at k1 k4 k6 k7
    simp [g1, g4, k1, k4, k5, k6, k7, k9, w2, w2', ivar]
    rw [hP]
    split <;> omega
  · simp [g1, g4, g5, g6, g7]
    exact hq _ _ k l2 (by simp [g5]) hpl (by simp [g6]) (by simp [g1]) (by simp [g4])
theorem lenScale {a P : Nat} (ha : len a ≤ 64) (hP : P ≤ 4096) : len (a * 10 ^ P) ≤ 4161 := by
  have := len_mul a (10 ^ P)
  have := len_pow10 P
  omega
/-- The number by a power of ten. -/
theorem scale_loop {a P : Nat} (ha : len a ≤ 64) (hP : P ≤ 4096) {H : Heap} {Q : LExit → AFr → Heap → Prop} {fr : AFr} (h4 : fr 4 = .p (.lst ((limbs a).map u64))) (h6 : fr 6 = .p (.int .i64 (P : Int))) (h12 : fr 12 = .p (.int .i64 0))
    (hq : ∀ (fr' : AFr), fr' 4 = .p (.lst ((limbs (a * 10 ^ P)).map u64)) → fr' 6 = .p (.int .i64 (P : Int)) → fr' 1 = fr 1 → Q .normal fr' H) : vc Trex lf10_B2 Q fr H := by
  simp only [lf10_B2, vc_block]
  refine loop_ind (fun fr2 H2 => H2 = H ∧ fr2 1 = fr 1 ∧ fr2 6 = .p (.int .i64 (P : Int)) ∧ ∃ i : Nat, i ≤ P ∧ fr2 4 = .p (.lst ((limbs (a * 10 ^ i)).map u64)) ∧ fr2 12 = .p (.int .i64 (i : Int))) (fun fr2 _ => P - ivar (fr2 12))
    ⟨rfl, rfl, h6, 0, by omega, by rw [Nat.pow_zero, Nat.mul_one]; exact h4, h12⟩ ?_
  rintro fr2 H2 ⟨rfl, g1, g6, i, hi, g4, g12⟩
  by_cases hlt : i < P
  · have hw := wrap_succ (i := i) (by omega)
    have hll := lenScale ha (show i ≤ 4096 by omega)
    have hS := sSmall_num (a := a * 10 ^ i) (k := 10) (c := 0) (by omega) (by decide) (by decide) (by decide)
    rw [Nat.add_zero, Nat.mul_assoc, ← Nat.pow_succ] at hS
    rw [show ((10 : Nat) : Int) = 10 from rfl, show ((0 : Nat) : Int) = 0 from rfl] at hS
    obtain ⟨p, hp⟩ : ∃ p, p = a * 10 ^ i := ⟨_, rfl⟩
    obtain ⟨p', hp'⟩ : ∃ p, p = a * 10 ^ i.succ := ⟨_, rfl⟩
    rw [← hp] at g4 hS
    rw [← hp'] at hS
    have hltI : (i : Int) < (P : Int) := by omega
    simp [g1, g4, g6, g12, hlt, hltI, hS, hw, ivar, Trex_mu, Trex_fns]
    exact ⟨⟨i + 1, by omega, by rw [hp'], by omega⟩, by omega⟩
  · have : i = P := by omega
    subst this
    simp [g1, g4, g6, g12]
    exact hq _ (by simp [g4]) (by simp [g6]) (by simp [g1])
/-- Noughts ahead. -/
theorem pad_loop {s : List UInt8} {P : Nat} (hs : s.length ≤ 200000) (hP : P ≤ 4096) {H : Heap} {Q : LExit → AFr → Heap → Prop} {fr : AFr} (h6 : fr 6 = .p (.int .i64 (P : Int))) (h13 : fr 13 = .p (.str s))
    (hq : ∀ (fr' : AFr), fr' 6 = .p (.int .i64 (P : Int)) → fr' 13 = .p (.str (padL (P + 1) s)) → Q .normal fr' H) : vc Trex lf10_B3 Q fr H := by
  simp only [lf10_B3, vc_block]
  refine loop_ind (fun fr2 H2 => H2 = H ∧ fr2 6 = .p (.int .i64 (P : Int)) ∧ ∃ i : Nat, i + s.length ≤ max (P + 1) s.length ∧ fr2 13 = .p (.str (List.replicate i 48 ++ s))) (fun fr2 _ => P + 1 - slen (fr2 13))
    ⟨rfl, h6, 0, by omega, by simpa using h13⟩ ?_
  rintro fr2 H2 ⟨rfl, g6, i, hi, g13⟩
  have hw := wrap_succ (i := P) (by omega)
  have hL : (List.replicate i (48 : UInt8) ++ s).length = i + s.length := by simp
  obtain ⟨T, hT⟩ : ∃ T, T = List.replicate i (48 : UInt8) ++ s := ⟨_, rfl⟩
  rw [← hT] at g13 hL
  by_cases hlt : T.length < P + 1
  · have hltI : (T.length : Int) < (P : Int) + 1 := by omega
    have m1 : 1 + T.length ≤ maxLen := by unfold maxLen; omega
    simp [g6, g13, hw, hlt, hltI, m1, binS, slen]
    exact ⟨⟨i + 1, by omega, by rw [hT]; rfl⟩, by omega⟩
  · have hltI : ¬ (T.length : Int) < (P : Int) + 1 := by omega
    simp [g6, g13, hw, hlt, hltI, binS]
    refine hq _ (by simp [g6]) ?_
    have : padL (P + 1) s = T := by
      unfold padL
      rw [hT]
      congr 2
      omega
    rw [this]
    simp [g13]
theorem padL_len (n : Nat) (s : List UInt8) : (padL n s).length = max n s.length := by unfold padL; simp; omega
theorem rexact_ok : FnOk Tryz.prog base 10 (pureS (f1 exactP)) := by
  refine pure_of_vc hmix Trex_ok globNone low10 fun args z hs hf => ?_
  obtain ⟨x, wx, rfl, rfl⟩ := f1_some hs
  refine ⟨by simp [lf10], ?_⟩
  have v1 := vF wx
  unfold exactP
  cases ox : x.ok with
  | false =>
    have e : exactF x = ([], false) := by unfold exactF; rw [ox]; rfl
    rw [ox] at v1
    rw [e]
    simp only [Fr.enc] at v1 ⊢
    simp [lf10, v1, fillS, Trex_mu, Trex_fns]
  | true =>
    rw [ox] at v1
    obtain ⟨p, hp, rfl⟩ := Fr.ok_of ox
    rw [exactF_num hp]
    by_cases h0 : p.num < 0
    · rw [if_pos h0]
      have hsg : (ofQ p).s = true := decide_eq_true h0
      simp only [Fr.enc, hsg] at v1 ⊢
      simp [lf10, v1, fillS, Trex_mu, Trex_fns]
    · rw [if_neg h0]
      have hsg : (ofQ p).s = false := decide_eq_false h0
      have hnn : (ofQ p).n = limbs p.num.natAbs := rfl
      have hdd : (ofQ p).d = limbs p.den := rfl
      simp only [Fr.enc, hsg, hnn, hdd] at v1 ⊢
      obtain ⟨a, ha⟩ : ∃ a, a = p.num.natAbs := ⟨_, rfl⟩
      obtain ⟨d, hd⟩ : ∃ d, d = p.den := ⟨_, rfl⟩
      have la : len a ≤ 64 := by rw [ha]; exact hp.1
      have ld : len d ≤ 64 := by rw [hd]; exact hp.2
      have d0 : 0 < d := by rw [hd]; exact p.den_pos
      have hco : Nat.Coprime a d := by rw [ha, hd]; exact p.reduced
      rw [← ha, ← hd] at v1 ⊢
      simp [lf10, v1, fillS, Trex_mu, Trex_fns]
      refine both2_loop (n := d) d0 ld (by simp) (by simp) (by simp) fun fr1 ex1 k lk k5 kp k6 k1 k4 => ?_
      simp at k1 k4
      have o : sOne [] = some (.lst [.int .u64 1]) := rfl
      have c := sOrder_one (n := k) (by omega)
      have e := cmpI_one (n := k)
      rw [kp] at e
      obtain ⟨r, hr⟩ : ∃ r, r = cmpI k 1 := ⟨_, rfl⟩
      rw [← hr] at c e
      cases hpl : plainN d with
      | false =>
        rw [hpl] at e
        have e2 : (r != 0) = true := by unfold bne; rw [e]; rfl
        simp [k1, k4, k5, k6, o, c, e, e2, binS, fillS, Trex_mu, Trex_fns]
      | true =>
        rw [hpl] at e
        have e2 : (r != 0) = false := by unfold bne; rw [e]; rfl
        have e3 : r = 0 := eq_of_beq e
        rw [if_pos rfl, ← refT_eq (by omega) ld hpl hco]
        have hP4 : places d ≤ 4096 := places_le hpl (plain_dvd (by omega) ld hpl)
        simp [k1, k4, k5, k6, o, c, e, e2, e3, binS, fillS, Trex_mu, Trex_fns]
        have hsc := lenScale la hP4
        have hdv : len (a * 10 ^ places d / d) ≤ 4161 := Nat.le_trans (len_mono (Nat.div_le_self _ _)) hsc
        have dv := sQuotR_num (a := a * 10 ^ places d) (b := d) (by omega) (by omega) (by omega)
        have W := sWideT_num (n := a * 10 ^ places d / d) (by omega)
        have LW := dec_wide hdv
        unfold refT
        obtain ⟨P, hPe⟩ : ∃ P, P = places d := ⟨_, rfl⟩
        rw [← hPe] at k6 hP4 hsc hdv dv W LW ⊢
        obtain ⟨S, hS⟩ : ∃ S, S = Lib.decDigits (a * 10 ^ P / d) := ⟨_, rfl⟩
        rw [← hS] at W LW ⊢
        refine scale_loop (a := a) (P := P) la hP4 (by simp [k4]) (by simp [k6]) (by simp) fun fr2 b4 b6 b1 => ?_
        simp [k1] at b1
        obtain ⟨N, hN⟩ : ∃ N, N = a * 10 ^ P := ⟨_, rfl⟩
        rw [← hN] at b4 dv W
        obtain ⟨M, hM⟩ : ∃ M, M = N / d := ⟨_, rfl⟩
        obtain ⟨M', hM'⟩ : ∃ M, M = N % d := ⟨_, rfl⟩
        rw [← hM, ← hM'] at dv
        rw [← hM] at W
        simp [b1, b4, b6, dv, W, fillS, Trex_mu, Trex_fns]
        refine pad_loop (s := S) (P := P) (by omega) hP4 (by simp [b6]) (by simp) fun fr3 d6 d13 => ?_
        have hT := padL_len (P + 1) S
        obtain ⟨T, hTe⟩ : ∃ T, T = padL (P + 1) S := ⟨_, rfl⟩
        rw [← hTe] at d13 hT
        by_cases hP0 : P = 0
        · rw [if_pos hP0]
          subst hP0
          rw [Nat.zero_add] at hTe
          rw [← hTe]
          have m1 : T.length + 2 ≤ maxLen := by unfold maxLen; omega
          simp [d6, d13, m1, binS]
        · rw [if_neg hP0, ← hTe]
          have hPb : ((P : Int) == 0) = false := beq_false_of_ne (by omega)
          have hw : IntKind.i64.wrap ((T.length : Int) - (P : Int)) = ((T.length - P : Nat) : Int) := by rw [IntWalk.i64_in _ (by omega)]; omega
          have n1 : T.length - P ≤ T.length := Nat.sub_le _ _
          have m1 : T.length - P + 1 ≤ maxLen := by unfold maxLen; omega
          have m2 : T.length - P + 1 + (T.length - (T.length - P)) ≤ maxLen := by unfold maxLen; omega
          simp [d6, d13, hP0, hPb, hw, n1, m1, m2, binS]
end Go.Proofs.YtgdpephlpdonnaaGreatDoor
