/-
  DecimalBack answers true on all values. No conditions.
-/
import Derived.Test.YtgdpephlpdonnaaGreatDoorDecE
import Derived.Test.YtgdpephlpdonnaaGreatDoorRefP
import Derived.Test.YtgdpephlpdonnaaGreatDoorRatM
import Derived.Test.YtgdpephlpdonnaaGreatDoorNatE
set_option linter.unusedSimpArgs false
set_option linter.unusedVariables false
set_option linter.constructorNameAsVariable false

/-
  DecimalBack: the plain law.
-/
namespace Go.Proofs.YtgdpephlpdonnaaGreatDoor
open Go Go.Abs Go.Limbs Go.Lib
set_option maxRecDepth 20000
theorem numD_cons {q : Nat} (hq : q < 10) (l : List UInt8) : numD 0 (digit q :: l) = q * 10 ^ l.length + numD 0 l := by
  show numD (0 * 10 + ((digit q).toNat - 48)) l = _
  rw [numD_acc, digit_valQ hq]
  congr 2
  omega
theorem step_lt {d r : Nat} (hr : r < d) : r * 10 / d < 10 := Nat.div_lt_of_lt_mul (by omega)
theorem expand_dig {d : Nat} : ∀ (f r : Nat), r < d → (expand d f r).all isD = true
  | 0, _, _ => rfl
  | f + 1, r, hr => by
    by_cases h0 : r = 0
    · rw [expand, if_pos h0]; rfl
    · rw [expand_step h0, List.all_cons, digit_isQ (step_lt hr), expand_dig f _ (Nat.mod_lt _ (by omega))]
      rfl
/-- What the digits say. -/
theorem expand_val {d : Nat} : ∀ (f r : Nat), r < d → d ∣ 10 ^ f * r → numD 0 (expand d f r) * d = r * 10 ^ (expand d f r).length
  | 0, r, hr, hd => by
    have := dvd_zero hd hr
    subst this
    rw [Nat.zero_mul]
    show numD 0 [] * d = 0
    rw [show numD 0 [] = 0 from rfl, Nat.zero_mul]
  | f + 1, r, hr, hd => by
    by_cases h0 : r = 0
    · subst h0
      rw [expand_zero, Nat.zero_mul, show numD 0 [] = 0 from rfl, Nat.zero_mul]
    · rw [expand_step h0, numD_cons (step_lt hr), List.length_cons, Nat.add_mul]
      have ih := expand_val f (r * 10 % d) (Nat.mod_lt _ (by omega)) (dvd_step hd)
      rw [ih]
      have e := Nat.div_add_mod (r * 10) d
      generalize (expand d f (r * 10 % d)).length = l
      have e2 : r * 10 / d * 10 ^ l * d = d * (r * 10 / d) * 10 ^ l := by rw [Nat.mul_assoc, Nat.mul_comm (10 ^ l), ← Nat.mul_assoc, Nat.mul_comm (r * 10 / d)]
      rw [e2, ← Nat.add_mul, e, Nat.pow_succ, Nat.mul_assoc, Nat.mul_comm 10]
theorem expand_last {d : Nat} : ∀ (f r : Nat), r < d → r ≠ 0 → d ∣ 10 ^ f * r → ∃ l c, expand d f r = l ++ [c] ∧ c ≠ 48
  | 0, r, hr, h0, hd => absurd (dvd_zero hd hr) h0
  | f + 1, r, hr, h0, hd => by
    rw [expand_step h0]
    by_cases h1 : r * 10 % d = 0
    · rw [h1, expand_zero]
      refine ⟨[], digit (r * 10 / d), rfl, fun e => ?_⟩
      have hv := digit_valQ (step_lt hr)
      rw [e, show UInt8.toNat 48 = 48 from rfl] at hv
      have hq : r * 10 / d = 0 := by omega
      have e := Nat.div_add_mod (r * 10) d
      rw [hq, h1] at e
      omega
    · obtain ⟨l, c, hl, hc⟩ := expand_last f (r * 10 % d) (Nat.mod_lt _ (by omega)) h1 (dvd_step hd)
      exact ⟨digit (r * 10 / d) :: l, c, by rw [hl]; rfl, hc⟩
theorem trimR0_last {l : List UInt8} {c : UInt8} (hc : c ≠ 48) : trimR0 (l ++ [c]) = l ++ [c] := by rw [trimR0_snoc, if_neg hc]
/-- What stands behind the point. -/
def fracD (a d : Nat) : List UInt8 := if a % d = 0 then [48] else expand d 4096 (a % d)
theorem exactT_eq (a d : Nat) : exactT a d = decDigits (a / d) ++ 46 :: fracD a d := by unfold exactT fracD; simp
theorem fracD_pos {a d : Nat} (hd : 0 < d) (h : d ∣ 10 ^ 4096) : fracD a d ≠ [] ∧ (fracD a d).all isD = true ∧ (fracD a d).length ≤ 4096 := by
  unfold fracD
  split
  · exact ⟨by simp, by decide, by simp⟩
  · rename_i h0
    have hlt := Nat.mod_lt a hd
    have hdv : d ∣ 10 ^ 4096 * (a % d) := by obtain ⟨c, hc⟩ := h; exact ⟨c * (a % d), by rw [hc, Nat.mul_assoc]⟩
    obtain ⟨l, c, e, _⟩ := expand_last 4096 (a % d) hlt h0 hdv
    exact ⟨by rw [e]; simp, expand_dig _ _ hlt, expand_len 4096 4096 _ hlt hdv⟩
theorem back_parse {q : Rat} (hq : Sm 64 q) (h0 : ¬ q.num < 0) (hp : plainN q.den = true) : parseD (exactT q.num.natAbs q.den) = (ofQ q, 0) := by
  have hd := plain_dvd q.den_nz hq.2 hp
  obtain ⟨f1, f2, f3⟩ := fracD_pos (a := q.num.natAbs) q.den_pos hd
  rw [exactT_eq]
  obtain ⟨h1, h2, h3⟩ := cut_at (r := fracD q.num.natAbs q.den) (no46 (numD_decQ (q.num.natAbs / q.den)).2)
  have hdig : digS (fracD q.num.natAbs q.den) = true := by
    unfold digS
    rw [f2]
    cases hh : fracD q.num.natAbs q.den with
    | nil => exact absurd hh f1
    | cons c r => rfl
  have hU : (decDigits (q.num.natAbs / q.den)).length ≤ 1280 := dec_1280 (Nat.le_trans (len_mono (Nat.div_le_self _ _)) hq.1)
  unfold parseD
  rw [h1, h2, h3, numS_dec, hdig, if_pos (by simp), if_pos ⟨Nat.le_trans (trimR0_len _) f3, by omega⟩]
  have key : fracS (decDigits (q.num.natAbs / q.den)) (trimR0 (fracD q.num.natAbs q.den)) = q := by
    have hself := Rat.mkRat_self q
    have hnum : ((q.num.natAbs : Nat) : Int) = q.num := by omega
    unfold fracS
    rw [numD_appQ, (numD_decQ _).1, numD_acc]
    have goal : ∀ (l : List UInt8), numD 0 l * q.den = q.num.natAbs % q.den * 10 ^ l.length → mkRat (zOf false (q.num.natAbs / q.den * 10 ^ l.length + numD 0 l)) (10 ^ l.length) = q := by
      intro l hl
      refine Eq.trans ?_ hself
      rw [Rat.mkRat_eq_iff (pow10_ne _) q.den_nz]
      have e := Nat.div_add_mod q.num.natAbs q.den
      have : (q.num.natAbs / q.den * 10 ^ l.length + numD 0 l) * q.den = q.num.natAbs * 10 ^ l.length := by
        rw [Nat.add_mul, hl, Nat.mul_assoc, Nat.mul_comm (10 ^ l.length), ← Nat.mul_assoc, ← Nat.add_mul, Nat.mul_comm (q.num.natAbs / q.den), e]
      have e3 : q.num * ((10 ^ l.length : Nat) : Int) = ((q.num.natAbs * 10 ^ l.length : Nat) : Int) := by rw [Int.natCast_mul, hnum]
      rw [e3, ← this, Int.natCast_mul]
      rfl
    apply goal
    by_cases hm : q.num.natAbs % q.den = 0
    · have : fracD q.num.natAbs q.den = [48] := by unfold fracD; rw [if_pos hm]
      rw [this, hm, Nat.zero_mul]
      show numD 0 [] * q.den = 0
      rw [show numD 0 [] = 0 from rfl, Nat.zero_mul]
    · have hlt := Nat.mod_lt q.num.natAbs q.den_pos
      have hdv : q.den ∣ 10 ^ 4096 * (q.num.natAbs % q.den) := by obtain ⟨c, hc⟩ := hd; exact ⟨c * (q.num.natAbs % q.den), by rw [hc, Nat.mul_assoc]⟩
      have hf : fracD q.num.natAbs q.den = expand q.den 4096 (q.num.natAbs % q.den) := by unfold fracD; rw [if_neg hm]
      obtain ⟨l, c, e, hc⟩ := expand_last 4096 _ hlt hm hdv
      have ht : trimR0 (fracD q.num.natAbs q.den) = expand q.den 4096 (q.num.natAbs % q.den) := by rw [hf, e, trimR0_last hc]
      rw [ht]
      exact expand_val 4096 _ hlt hdv
  rw [key]
  exact heldQ_ok hq
/-- Its length, its last two and its first two bytes. -/
theorem back_ends {q : Rat} (hq : Sm 64 q) (hp : plainN q.den = true) : ∃ (n : Nat) (c0 c1 cl cm : UInt8), (exactT q.num.natAbs q.den).length = n + 3 ∧ n ≤ 6000 ∧ (exactT q.num.natAbs q.den)[0]? = some c0 ∧ (exactT q.num.natAbs q.den)[1]? = some c1 ∧
    (exactT q.num.natAbs q.den)[n + 2]? = some cl ∧ (exactT q.num.natAbs q.den)[n + 1]? = some cm ∧ (cl ≠ 48 ∨ cm = 46) ∧ (c0 ≠ 48 ∨ c1 = 46) := by
  have hd := plain_dvd q.den_nz hq.2 hp
  obtain ⟨f1, f2, f3⟩ := fracD_pos (a := q.num.natAbs) q.den_pos hd
  have hU : (decDigits (q.num.natAbs / q.den)).length ≤ 1280 := dec_1280 (Nat.le_trans (len_mono (Nat.div_le_self _ _)) hq.1)
  have hU0 : 0 < (decDigits (q.num.natAbs / q.den)).length := List.length_pos_iff.2 (dec_ne _)
  have hX0 : 0 < (fracD q.num.natAbs q.den).length := List.length_pos_iff.2 f1
  rw [exactT_eq]
  obtain ⟨U, hUe⟩ : ∃ u, u = decDigits (q.num.natAbs / q.den) := ⟨_, rfl⟩
  obtain ⟨X, hXe⟩ : ∃ u, u = fracD q.num.natAbs q.den := ⟨_, rfl⟩
  rw [← hUe] at hU hU0 ⊢
  rw [← hXe] at f3 hX0 ⊢
  have hL : (U ++ 46 :: X).length = U.length + X.length + 1 := by simp; omega
  obtain ⟨n, hn⟩ : ∃ n, (U ++ 46 :: X).length = n + 3 := ⟨U.length + X.length - 2, by omega⟩
  have g : ∀ i, i < n + 3 → (U ++ 46 :: X)[i]? = some ((U ++ 46 :: X).getD i 0) := fun i hi => by
    rw [List.getD_eq_getElem?_getD, List.getElem?_eq_getElem (by omega)]
    rfl
  refine ⟨n, _, _, _, _, hn, by omega, g 0 (by omega), g 1 (by omega), g (n + 2) (by omega), g (n + 1) (by omega), ?_, ?_⟩
  · by_cases hm : q.num.natAbs % q.den = 0
    · right
      have : X = [48] := by rw [hXe]; unfold fracD; rw [if_pos hm]
      subst this
      have hnn : n + 1 = U.length := by simp at hn; omega
      rw [List.getD_eq_getElem?_getD, hnn, List.getElem?_append_right (Nat.le_refl _), Nat.sub_self]
      rfl
    · left
      have hlt := Nat.mod_lt q.num.natAbs q.den_pos
      have hdv : q.den ∣ 10 ^ 4096 * (q.num.natAbs % q.den) := by obtain ⟨c, hc⟩ := hd; exact ⟨c * (q.num.natAbs % q.den), by rw [hc, Nat.mul_assoc]⟩
      obtain ⟨l, c, e, hc⟩ := expand_last 4096 _ hlt hm hdv
      have hX : X = l ++ [c] := by rw [hXe]; unfold fracD; rw [if_neg hm]; exact e
      have e2 : U ++ 46 :: X = (U ++ 46 :: l) ++ [c] := by rw [hX]; simp
      have hn2 : n + 2 = (U ++ 46 :: l).length := by rw [e2, List.length_append] at hn; simp at hn ⊢; omega
      rw [List.getD_eq_getElem?_getD, e2, hn2, List.getElem?_append_right (Nat.le_refl _), Nat.sub_self]
      exact hc
  · by_cases hz : q.num.natAbs / q.den = 0
    · right
      have : U = [48] := by rw [hUe, hz, decDigits_one (by decide)]; rfl
      subst this
      rfl
    · left
      intro e
      refine dec_head hz ?_
      rw [← hUe]
      cases hc : U with
      | nil => rw [hc] at hU0; simp at hU0
      | cons c r =>
        rw [hc] at e
        have : c = 48 := e
        rw [this]
        rfl
end Go.Proofs.YtgdpephlpdonnaaGreatDoor

/-
  The reference's quotient of natural numbers.
-/
namespace Go.Proofs.YtgdpephlpdonnaaGreatDoor
open Go Go.Abs Go.Limbs
variable {base : Prot}
set_option maxRecDepth 20000
attribute [local irreducible] vc
attribute [local simp] pureS touchV freezeL fuel shiftV u64 au
def Tdn2 : Tab := (Tab.none.with 51 (pureS sValid)).with 42 (pureS sQuotR)
theorem Tdn2_ok : TabOk Tryz.prog base Tdn2 := Tab.with_ok (Tab.with_ok Tab.none_ok rvalid_ok) rdiv_ok
theorem Tdn2_mu (f : FuncId) (a : List AVal) (H : Heap) : Tdn2.mu f a H = none := (rfl)
theorem Tdn2_fns : Tdn2.fn 51 = pureS sValid ∧ Tdn2.fn 42 = pureS sQuotR := ⟨rfl, rfl⟩
theorem rdivm_ok : FnOk Tryz.prog base 16 (pureS sDivMod) := by
  refine pure_of_vc hmix Tdn2_ok globNone low16 fun args z hs hf => ?_
  unfold sDivMod at hs
  split at hs
  case h_2 => cases hs
  rename_i xs ys
  split at hs
  case h_2 => cases hs
  rename_i a b ha hb
  obtain ⟨rfl, wa⟩ := decU_some ha
  obtain ⟨rfl, wb⟩ := decU_some hb
  cases hs
  refine ⟨by simp [lf16], ?_⟩
  have va := sValid_list wa
  have vb := sValid_list wb
  cases hoa : okL a with
  | false => rw [hoa] at va; simp [lf16, va, hoa, Tdn2_mu, Tdn2_fns, pairP, lstP, addL, subL, mulL2, gcdL, cmpL, divL]
  | true =>
    cases hob : okL b with
    | false => rw [hoa] at va; rw [hob] at vb; simp [lf16, va, vb, hoa, hob, Tdn2_mu, Tdn2_fns, pairP, lstP, addL, subL, mulL2, gcdL, cmpL, divL]
    | true =>
      obtain ⟨la, ea⟩ := okL_len hoa
      obtain ⟨lb, eb⟩ := okL_len hob
      rw [hoa] at va
      rw [hob] at vb
      obtain ⟨m, hm⟩ : ∃ t, t = val a := ⟨_, rfl⟩
      obtain ⟨n, hn⟩ : ∃ t, t = val b := ⟨_, rfl⟩
      rw [← hm] at la ea
      rw [← hn] at lb eb
      have lm : len m ≤ 100000 := by omega
      have ln : len n ≤ 100000 := by omega
      by_cases hz : b = []
      · subst hz
        simp only [List.map_nil] at vb
        simp [lf16, va, vb, hoa, hob, ← hm, ← hn, Tdn2_mu, Tdn2_fns, pairP, lstP, addL, subL, mulL2, gcdL, cmpL, divL]
      · have hn0 : n ≠ 0 := fun e => hz (by rw [← eb, e, limbs_zero])
        have h1 := sQuotR_num (show len m ≤ 90000 by omega) ln hn0
        rw [ea, eb] at h1
        have hbl : ((b.length : Int) == 0) = false := beq_false_of_ne (by have : b.length ≠ 0 := fun e => hz (List.length_eq_zero_iff.1 e); omega)
        simp [lf16, h1, hz, hbl, va, vb, hoa, hob, ← hm, ← hn, Tdn2_mu, Tdn2_fns, pairP, lstP, addL, subL, mulL2, gcdL, cmpL, divL]
end Go.Proofs.YtgdpephlpdonnaaGreatDoor

/-
  DecimalBack answers true.
-/
namespace Go.Proofs.YtgdpephlpdonnaaGreatDoor
open Go Go.Abs Go.Limbs
variable {base : Prot}
set_option maxRecDepth 20000
attribute [local irreducible] vc
attribute [local simp] pureS touchV freezeL fuel shiftV u64 au
def bx (q : Rat) : Ent := ⟨3, 0, false, [.p (ofQ q).enc], 24⟩
def Tdb : Tab := ((((Tl4a.with 6 (pureS sAwake4)).with 15 (pureS (f2 quoP))).with 16 (pureS sDivMod)).with 17 (pureS sSame))
theorem Tdb_ok : TabOk Tryz.prog base2 Tdb := Tab.with_ok (Tab.with_ok (Tab.with_ok (Tab.with_ok Tl4a_ok awake4_ok) rQuo_ok) rdivm_ok) sameL_ok
theorem Tdb_mu (f : FuncId) (a : List AVal) (H : Heap) : Tdb.mu f a H = none := (rfl)
theorem Tdb_fns : Tdb.fn 6 = pureS sAwake4 ∧ Tdb.fn 15 = pureS (f2 quoP) ∧ Tdb.fn 16 = pureS sDivMod ∧ Tdb.fn 17 = pureS sSame ∧ Tdb.fn 14 = pureS sQOf ∧ Tdb.fn 11 = pureS (f2 sameP) ∧ Tdb.fn 7 = pureS sDParse ∧ Tdb.fn 9 = pureS (f1 exactP) := ⟨rfl, rfl, rfl, rfl, rfl, rfl, rfl, rfl⟩
theorem div_pos' {q p : Rat} (hq : ¬ q < 0) (hp : 0 < p) : ¬ q / p < 0 := by
  rw [Rat.div_lt_iff hp, Rat.zero_mul]
  exact hq
theorem freeze1_cons (e : Ent) (t : Heap) (n : Nat) : freeze1 (e :: t) (n + 1) = e :: freeze1 t n := by
  unfold freeze1
  simp only [List.getElem?_cons_succ, List.set_cons_succ]
  cases t[n]? <;> rfl
theorem num_pos' {q : Rat} (h : ¬ q < 0) : ¬ q.num < 0 := fun e => h (by
  rw [← Rat.not_le, ← Rat.num_nonneg]
  omega)
theorem twos_loop {q : Rat} {t : Nat} (ht : t ≤ 40) (hS : Sm 1 q) (h0 : ¬ q < 0) {Q : LExit → AFr → Heap → Prop} {fr : AFr} (h1 : fr 1 = .p (.int .i64 (t : Int))) (h9 : fr 9 = .optr 0 0 0 0) (h10 : fr 10 = .p (.int .i64 0))
    (hq : ∀ (fr' : AFr) (q' : Rat), Sm 41 q' → ¬ q' < 0 → fr' 2 = fr 2 → fr' 8 = fr 8 → fr' 9 = .optr 0 0 0 0 → Q .normal fr' [bx q']) : vc Tdb lf4_B0 Q fr [bx q] := by
  simp only [lf4_B0, vc_block]
  refine loop_ind (fun fr2 H2 => fr2 1 = .p (.int .i64 (t : Int)) ∧ fr2 2 = fr 2 ∧ fr2 8 = fr 8 ∧ fr2 9 = .optr 0 0 0 0 ∧ ∃ (i : Nat) (q2 : Rat), i ≤ t ∧ Sm (1 + i) q2 ∧ ¬ q2 < 0 ∧ H2 = [bx q2] ∧ fr2 10 = .p (.int .i64 (i : Int))) (fun fr2 _ => t - ivar (fr2 10)) ⟨h1, rfl, rfl, h9, 0, q, by omega, hS, h0, rfl, h10⟩ ?_
  rintro fr2 H2 ⟨g1, g2, g8, g9, i, q2, hi, hS2, hq2, rfl, g10⟩
  by_cases h : i < t
  · have hI : (i : Int) < (t : Int) := by omega
    have hw := wrap_succ (i := i) (by omega)
    have o := dO 2 1 (by decide)
    have hp2 : (0 : Rat) < Rat.divInt 2 1 := by decide +kernel
    have hne : Rat.divInt 2 1 ≠ 0 := by decide +kernel
    have hS3 : Sm (1 + (i + 1)) (q2 / Rat.divInt 2 1) := Sm_mono (Sm_div hS2 (dS 2 1 (by decide) (Nat.le_refl 1)) hne) (by omega)
    have qu := quoP_num (Sm_mono hS2 (show 1 + i ≤ 64 by omega)) (dS 2 1 (by decide) (by decide)) hne (Sm_mono hS3 (by omega))
    have hn3 := div_pos' hq2 hp2
    obtain ⟨two, htwo⟩ : ∃ x, x = ofQ (Rat.divInt 2 1) := ⟨_, rfl⟩
    obtain ⟨q3, hq3⟩ : ∃ x, x = q2 / Rat.divInt 2 1 := ⟨_, rfl⟩
    rw [← htwo] at o qu
    rw [← hq3] at qu hS3 hn3
    simp only [pairF, Fr.enc] at o qu
    simp [bx, Fr.enc, g1, g2, g8, g9, g10, h, hI, vc_regionW, fillS, Tdb_mu, Tdb_fns]
    refine ⟨[], ?_⟩
    simp [o, qu, g1, g2, g8, g9, g10, hw, fillS, Tdb_mu, Tdb_fns]
    exact ⟨⟨i + 1, by omega, q3, hS3, hn3, ⟨rfl, rfl, rfl⟩, by omega⟩, by simp [ivar]; omega⟩
  · have hI : ¬ (i : Int) < (t : Int) := by omega
    simp [bx, Fr.enc, g1, g2, g8, g9, g10, h, hI]
    exact hq _ q2 (Sm_mono hS2 (by omega)) hq2 (by simp [g2]) (by simp [g8]) (by simp [g9])
theorem fives_loop {q : Rat} {t : Nat} (ht : t ≤ 20) (hS : Sm 41 q) (h0 : ¬ q < 0) {Q : LExit → AFr → Heap → Prop} {fr : AFr} (h1 : fr 2 = .p (.int .i64 (t : Int))) (h9 : fr 9 = .optr 0 0 0 0) (h10 : fr 11 = .p (.int .i64 0))
    (hq : ∀ (fr' : AFr) (q' : Rat), Sm 61 q' → ¬ q' < 0 → fr' 8 = fr 8 → fr' 9 = .optr 0 0 0 0 → Q .normal fr' [bx q']) : vc Tdb lf4_B1 Q fr [bx q] := by
  simp only [lf4_B1, vc_block]
  refine loop_ind (fun fr2 H2 => fr2 2 = .p (.int .i64 (t : Int)) ∧ fr2 8 = fr 8 ∧ fr2 9 = .optr 0 0 0 0 ∧ ∃ (i : Nat) (q2 : Rat), i ≤ t ∧ Sm (41 + i) q2 ∧ ¬ q2 < 0 ∧ H2 = [bx q2] ∧ fr2 11 = .p (.int .i64 (i : Int))) (fun fr2 _ => t - ivar (fr2 11)) ⟨h1, rfl, h9, 0, q, by omega, hS, h0, rfl, h10⟩ ?_
  rintro fr2 H2 ⟨g1, g8, g9, i, q2, hi, hS2, hq2, rfl, g10⟩
  by_cases h : i < t
  · have hI : (i : Int) < (t : Int) := by omega
    have hw := wrap_succ (i := i) (by omega)
    have o := dO 5 1 (by decide)
    have hp2 : (0 : Rat) < Rat.divInt 5 1 := by decide +kernel
    have hne : Rat.divInt 5 1 ≠ 0 := by decide +kernel
    have hS3 : Sm (41 + (i + 1)) (q2 / Rat.divInt 5 1) := Sm_mono (Sm_div hS2 (dS 5 1 (by decide) (Nat.le_refl 1)) hne) (by omega)
    have qu := quoP_num (Sm_mono hS2 (show 41 + i ≤ 64 by omega)) (dS 5 1 (by decide) (by decide)) hne (Sm_mono hS3 (by omega))
    have hn3 := div_pos' hq2 hp2
    obtain ⟨two, htwo⟩ : ∃ x, x = ofQ (Rat.divInt 5 1) := ⟨_, rfl⟩
    obtain ⟨q3, hq3⟩ : ∃ x, x = q2 / Rat.divInt 5 1 := ⟨_, rfl⟩
    rw [← htwo] at o qu
    rw [← hq3] at qu hS3 hn3
    simp only [pairF, Fr.enc] at o qu
    simp [bx, Fr.enc, g1, g8, g9, g10, h, hI, vc_regionW, fillS, Tdb_mu, Tdb_fns]
    refine ⟨[], ?_⟩
    simp [o, qu, g1, g8, g9, g10, hw, fillS, Tdb_mu, Tdb_fns]
    exact ⟨⟨i + 1, by omega, q3, hS3, hn3, ⟨rfl, rfl, rfl⟩, by omega⟩, by simp [ivar]; omega⟩
  · have hI : ¬ (i : Int) < (t : Int) := by omega
    simp [bx, Fr.enc, g1, g8, g9, g10, h, hI]
    exact hq _ q2 (Sm_mono hS2 (by omega)) hq2 (by simp [g8]) (by simp [g9])
/-- One prime is taken out of the denominator. -/
theorem strip2_loop {q : Rat} {p n kk : Nat} (hk : kk = 0 ∧ p = 2 ∨ kk = 1 ∧ p = 5) (hn : 0 < n) (hl : len n ≤ 64) {ex : Heap} {Q : LExit → AFr → Heap → Prop} {fr : AFr} (h14 : fr 14 = .p (.lst ((limbs n).map u64))) (h15 : fr 15 = .p (.int .i64 (kk : Int)))
    (hq : ∀ (fr' : AFr) (ex' : Heap), fr' 14 = .p (.lst ((limbs (strip p n n)).map u64)) → fr' 15 = .p (.int .i64 (kk : Int)) → fr' 8 = fr 8 → fr' 9 = fr 9 → fr' 12 = fr 12 → fr' 13 = fr 13 → Q .normal fr' (bx q :: ex')) : vc Tdb lf4_B2 Q fr (bx q :: ex) := by
  simp only [lf4_B2, vc_block]
  refine loop_ind (fun fr2 H2 => fr2 15 = .p (.int .i64 (kk : Int)) ∧ fr2 8 = fr 8 ∧ fr2 9 = fr 9 ∧ fr2 12 = fr 12 ∧ fr2 13 = fr 13 ∧ ∃ (ex2 : Heap) (f m : Nat), H2 = bx q :: ex2 ∧ 0 < m ∧ len m ≤ 64 ∧ m ≤ f ∧ strip p f m = strip p n n ∧ fr2 14 = .p (.lst ((limbs m).map u64))) (fun fr2 _ => mOf (fr2 14))
    ⟨h15, rfl, rfl, rfl, rfl, ex, n, n, rfl, hn, hl, Nat.le_refl _, rfl, h14⟩ ?_
  rintro fr2 H2 ⟨g15, g8, g9, g12, g13, ex2, f, m, rfl, m0, ml, mf, ms, g14⟩
  have p2 : 2 ≤ p := by omega
  have p5 : p ≤ 5 := by omega
  have lp : len p ≤ 64 := Nat.le_trans (len_small (by omega)) (by omega)
  have dv := cDiv (a := m) (b := p) ml lp (by omega) rfl rfl
  rw [limbs_small (n := p) (by omega) (by rw [B_lit]; omega)] at dv
  obtain ⟨f', rfl⟩ : ∃ f', f = f' + 1 := ⟨f - 1, by omega⟩
  have hdl : len (m / p) ≤ 64 := Nat.le_trans (len_mono (Nat.div_le_self _ _)) ml
  have w1 : IntKind.i64.wrap 1 = 1 := by decide
  have w2 : IntKind.i64.wrap (1 + 1) = 2 := by decide
  have w2' : IntKind.i64.wrap 2 = 2 := by decide
  by_cases hd : m % p = 0
  · have hs : strip p (f' + 1) m = strip p f' (m / p) := by
      rw [strip, if_pos hd]
    rw [hs] at ms
    rw [hd, limbs_zero] at dv
    have h1 : p ≤ m := Nat.le_of_dvd m0 (Nat.dvd_of_mod_eq_zero hd)
    have h2 : m / p < m := Nat.div_lt_self m0 (by omega)
    have h3 : 0 < m / p := Nat.div_pos h1 (by omega)
    have e1 := mOf_num (m := m) (by omega)
    have e2 := mOf_num (m := m / p) (by omega)
    obtain ⟨k, hk2⟩ : ∃ k, k = m / p := ⟨_, rfl⟩
    rw [← hk2] at dv ms h2 h3 e2 hdl
    have e1' : mOf (fr2 14) = m := by rw [g14]; exact e1
    rcases hk with ⟨rfl, rfl⟩ | ⟨rfl, rfl⟩
    · simp at dv
      simp [g14, g15, g8, g9, g12, g13, dv, fillS, w1, w2, w2', Tdb_mu, Tdb_fns]
      refine ⟨⟨⟨_, freeze1_cons _ _ _⟩, f', k, h3, hdl, by omega, ms, rfl⟩, ?_⟩
      rw [e2, e1]
      exact h2
    · simp at dv
      simp [g14, g15, g8, g9, g12, g13, dv, fillS, w1, w2, w2', Tdb_mu, Tdb_fns]
      refine ⟨⟨⟨_, freeze1_cons _ _ _⟩, f', k, h3, hdl, by omega, ms, rfl⟩, ?_⟩
      rw [e2, e1]
      exact h2
  · have hs : strip p (f' + 1) m = m := by
      rw [strip, if_neg hd]
    rw [hs] at ms
    have hr : 0 < (limbs (m % p)).length := by
      have : (limbs (m % p)).length ≠ 0 := fun e => hd (len_eq_zero.1 e)
      omega
    obtain ⟨r, hrr⟩ : ∃ r, r = limbs (m % p) := ⟨_, rfl⟩
    obtain ⟨k, hk2⟩ : ∃ k, k = m / p := ⟨_, rfl⟩
    rw [← hrr] at dv hr
    rw [← hk2] at dv
    rcases hk with ⟨rfl, rfl⟩ | ⟨rfl, rfl⟩
    · simp at dv
      simp [g14, g15, g8, g9, g12, g13, dv, hr, fillS, w1, w2, w2', Tdb_mu, Tdb_fns]
      rw [freeze1_cons]
      exact hq _ _ (by simp [g14, ms]) (by simp [g15]) (by simp [g8]) (by simp [g9]) (by simp [g12]) (by simp [g13])
    · simp at dv
      simp [g14, g15, g8, g9, g12, g13, dv, hr, fillS, w1, w2, w2', Tdb_mu, Tdb_fns]
      rw [freeze1_cons]
      exact hq _ _ (by simp [g14, ms]) (by simp [g15]) (by simp [g8]) (by simp [g9]) (by simp [g12]) (by simp [g13])
def sLaw4I : List PVal → Option PVal
  | [.int .i64 n, .int .i64 t, .int .i64 f, .int .i64 o] => if ((-9223372036854775808 ≤ n ∧ n < 9223372036854775808) ∧ (-9223372036854775808 ≤ t ∧ t < 9223372036854775808)) ∧ (-9223372036854775808 ≤ f ∧ f < 9223372036854775808) ∧ (-9223372036854775808 ≤ o ∧ o < 9223372036854775808) then some (.bool true) else none
  | _ => none
theorem divInt_pos {n o : Int} (hn : 0 ≤ n) (ho : 1 ≤ o) : ¬ Rat.divInt n o < 0 := by
  have h : (0 : Rat) ≤ Rat.divInt n o := Rat.divInt_nonneg hn (by omega)
  exact Rat.not_lt.2 h
/-- Both primes. -/
theorem both_loop {q : Rat} {n : Nat} (hn : 0 < n) (hl : len n ≤ 64) {ex : Heap} {Q : LExit → AFr → Heap → Prop} {fr : AFr} (h14 : fr 14 = .p (.lst ((limbs n).map u64))) (h15 : fr 15 = .p (.int .i64 0))
    (hq : ∀ (fr' : AFr) (ex' : Heap) (k : Nat), fr' 14 = .p (.lst ((limbs k).map u64)) → decide (k = 1) = plainN n → fr' 8 = fr 8 → fr' 9 = fr 9 → fr' 12 = fr 12 → fr' 13 = fr 13 → Q .normal fr' (bx q :: ex')) : vc Tdb lf4_B3 Q fr (bx q :: ex) := by
  have s1 := strip_pos (p := 2) (by omega) n n hn
  have l1 : len (strip 2 n n) ≤ 64 := Nat.le_trans (len_mono (strip_le n n)) hl
  have hpl : decide (strip 5 (strip 2 n n) (strip 2 n n) = 1) = plainN n := rfl
  obtain ⟨m, hm⟩ : ∃ m, m = strip 2 n n := ⟨_, rfl⟩
  rw [← hm] at s1 l1 hpl
  obtain ⟨k, hk⟩ : ∃ k0, k0 = strip 5 m m := ⟨_, rfl⟩
  rw [← hk] at hpl
  simp only [lf4_B3, vc_block]
  refine loop_ind (fun fr2 H2 => fr2 8 = fr 8 ∧ fr2 9 = fr 9 ∧ fr2 12 = fr 12 ∧ fr2 13 = fr 13 ∧ (∃ ex2 : Heap, H2 = bx q :: ex2) ∧ ((fr2 15 = .p (.int .i64 0) ∧ fr2 14 = .p (.lst ((limbs n).map u64))) ∨ (fr2 15 = .p (.int .i64 1) ∧ fr2 14 = .p (.lst ((limbs m).map u64))) ∨ (fr2 15 = .p (.int .i64 2) ∧ fr2 14 = .p (.lst ((limbs k).map u64)))))
    (fun fr2 _ => 2 - ivar (fr2 15)) ⟨rfl, rfl, rfl, rfl, ⟨ex, rfl⟩, .inl ⟨h15, h14⟩⟩ ?_
  have w1 : IntKind.i64.wrap (0 + 1) = 1 := rfl
  have w2 : IntKind.i64.wrap (1 + 1) = 2 := rfl
  have w1' : IntKind.i64.wrap 1 = 1 := rfl
  have w2' : IntKind.i64.wrap 2 = 2 := rfl
  rintro fr2 H2 ⟨g8, g9, g12, g13, ⟨ex2, rfl⟩, ⟨g15, g14⟩ | ⟨g15, g14⟩ | ⟨g15, g14⟩⟩
  · simp [g8, g9, g12, g13, g14, g15]
    refine strip2_loop (kk := 0) (p := 2) (n := n) (.inl ⟨rfl, rfl⟩) hn hl (by simp [g14]) (by simp [g15]) fun fr3 ex3 k14 k15 k8 k9 k12 k13 => ?_
    rw [← hm] at k14
    simp at k15
    simp [g8, g9, g12, g13, g14, g15, k8, k9, k12, k13, k14, k15, w1, w1', ivar]
  · simp [g8, g9, g12, g13, g14, g15]
    refine strip2_loop (kk := 1) (p := 5) (n := m) (.inr ⟨rfl, rfl⟩) s1 l1 (by simp [g14]) (by simp [g15]) fun fr3 ex3 k14 k15 k8 k9 k12 k13 => ?_
    rw [← hk] at k14
    simp at k15
    simp [g8, g9, g12, g13, g14, g15, k8, k9, k12, k13, k14, k15, w2, w2', ivar]
  · simp [g8, g9, g12, g13, g14, g15]
    exact hq _ _ k (by simp [g14]) hpl (by simp [g8]) (by simp [g9]) (by simp [g12]) (by simp [g13])
theorem dback_ok : FnOk Tryz.prog base2 4 (pureS sLaw4I) := by
  refine pure_of_vc hmix Tdb_ok globNone low4 fun args z hs hf => ?_
  unfold sLaw4I at hs
  split at hs
  case h_2 => cases hs
  rename_i n t f o
  split at hs
  case isFalse => cases hs
  rename_i hc
  obtain ⟨⟨hn, ht⟩, hff, ho⟩ := hc
  cases hs
  refine ⟨by simp [lf4], ?_⟩
  have aw := sAwake4_nil
  by_cases c1 : n < 0
  · simp [lf4, c1, aw, Tdb_mu, Tdb_fns]
  by_cases c2 : 1099511627776 < n
  · simp [lf4, c1, c2, aw, Tdb_mu, Tdb_fns]
  by_cases c3 : t < 0
  · simp [lf4, c1, c2, c3, aw, Tdb_mu, Tdb_fns]
  by_cases c4 : 40 < t
  · simp [lf4, c1, c2, c3, c4, aw, Tdb_mu, Tdb_fns]
  by_cases c5 : f < 0
  · simp [lf4, c1, c2, c3, c4, c5, aw, Tdb_mu, Tdb_fns]
  by_cases c6 : 20 < f
  · simp [lf4, c1, c2, c3, c4, c5, c6, aw, Tdb_mu, Tdb_fns]
  by_cases c7 : o < 1
  · simp [lf4, c1, c2, c3, c4, c5, c6, c7, aw, Tdb_mu, Tdb_fns]
  by_cases c8 : 1000 < o
  · simp [lf4, c1, c2, c3, c4, c5, c6, c7, c8, aw, Tdb_mu, Tdb_fns]
  obtain ⟨t, rfl⟩ : ∃ T : Nat, t = (T : Int) := ⟨t.toNat, by omega⟩
  obtain ⟨f, rfl⟩ : ∃ T : Nat, f = (T : Int) := ⟨f.toNat, by omega⟩
  have O := sQOf_at hn ho
  have S0 : Sm 1 (Rat.divInt n o) := Sm_divInt (zl_int hn.1 hn.2) (zl_int ho.1 ho.2) (Nat.le_refl 1)
  have P0 := divInt_pos (n := n) (o := o) (by omega) (by omega)
  obtain ⟨q0, hq0⟩ : ∃ q, q = Rat.divInt n o := ⟨_, rfl⟩
  rw [← hq0] at O S0 P0
  simp only [Fr.enc] at O
  simp [lf4, c1, c2, c3, c4, c5, c6, c7, c8, O, fillS, Tdb_mu, Tdb_fns]
  refine twos_loop (q := q0) (t := t) (by omega) S0 P0 (by simp) (by simp) (by simp) fun fr1 q1 S1 P1 a2 a8 a9 => ?_
  simp at a2 a8
  simp [a2, a8, a9]
  refine fives_loop (q := q1) (t := f) (by omega) S1 P1 (by simp [a2]) (by simp [a9]) (by simp) fun fr2 q S2 P2 b8 b9 => ?_
  simp [a8] at b8
  have S := Sm_mono S2 (show 61 ≤ 64 by omega)
  have N := num_pos' P2
  have E0 := exactF_num S
  rw [if_neg N] at E0
  cases hp : plainN q.den with
  | false =>
    rw [hp] at E0
    have E := exactP_at (t := []) (b := false) (by rw [E0]; rfl)
    simp only [Fr.enc] at E
    simp [bx, Fr.enc, b8, b9, E, fillS, Tdb_mu, Tdb_fns]
    refine both_loop (q := q) (n := q.den) q.den_pos S.2 (by simp; rfl) (by simp) fun fr3 ex3 k k14 kp k8 k9 k12 k13 => ?_
    have sm := sSame_two k 1
    rw [limbs_small (n := 1) (by decide) (by rw [B_lit]; decide), kp, hp] at sm
    simp [b8, b9] at k8 k9 k12 k13
    simp at sm
    simp [k8, k9, k12, k13, k14, sm, aw, binS, freeze1_cons, fillS, Tdb_mu, Tdb_fns]
  | true =>
    rw [hp, if_pos rfl] at E0
    have E := exactP_at E0
    have BP := back_parse S N hp
    obtain ⟨m, x0, x1, xl, xm, hL, hm6, g0, g1, gl, gm, hlm, h01⟩ := back_ends S hp
    obtain ⟨T, hT⟩ : ∃ T, T = exactT q.num.natAbs q.den := ⟨_, rfl⟩
    rw [← hT] at E BP hL g0 g1 gl gm
    have DP := sDParse_at (s := T) (by omega)
    rw [BP] at DP
    have SS := sameP_self q
    simp only [Fr.enc, pairF] at E DP SS
    simp [bx, Fr.enc, b8, b9, E, fillS, Tdb_mu, Tdb_fns]
    refine both_loop (q := q) (n := q.den) q.den_pos S.2 (by simp; rfl) (by simp) fun fr3 ex3 k k14 kp k8 k9 k12 k13 => ?_
    have sm := sSame_two k 1
    rw [limbs_small (n := 1) (by decide) (by rw [B_lit]; decide), kp, hp] at sm
    simp [b8, b9] at k8 k9 k12 k13
    simp at sm
    have hlt : ¬ ((m : Int) + 3 < 3) := by omega
    have w1 : IntKind.i64.wrap ((m : Int) + 3 - 1) = (m : Int) + 2 := by rw [IntWalk.i64_in _ (by omega)]; omega
    have w2 : IntKind.i64.wrap ((m : Int) + 3 - 2) = (m : Int) + 1 := by rw [IntWalk.i64_in _ (by omega)]; omega
    have t1 : ((m : Int) + 2).toNat = m + 2 := by omega
    have t2 : ((m : Int) + 1).toNat = m + 1 := by omega
    have p1 : 0 ≤ (m : Int) + 2 := by omega
    have p2 : 0 ≤ (m : Int) + 1 := by omega
    have gl' := getE gl
    have gm' := getE gm
    have g0' := getE g0
    have g1' := getE g1
    have ne48 : ∀ {c : UInt8}, c ≠ 48 → ¬ (c.toNat = 48) := fun h e => h (UInt8.toNat_inj.1 e)
    have ne48' : ∀ {c : UInt8}, c ≠ 48 → ((c.toNat : Int) != 48) = true := fun h => bne_iff_ne.2 (fun e => ne48 h (by omega))
    have hX : (xl ≠ 48) ∨ (xl = 48 ∧ xm = 46) := by
      by_cases h : xl = 48
      · exact .inr ⟨h, hlm.resolve_left (fun g => g h)⟩
      · exact .inl h
    have hY : (x0 ≠ 48) ∨ (x0 = 48 ∧ x1 = 46) := by
      by_cases h : x0 = 48
      · exact .inr ⟨h, h01.resolve_left (fun g => g h)⟩
      · exact .inl h
    rcases hX with hX | ⟨rfl, rfl⟩ <;> rcases hY with hY | ⟨rfl, rfl⟩
    · have a1 := ne48 hX
      have a2 := ne48' hX
      have a3 := ne48 hY
      have a4 := ne48' hY
      simp [bx, Fr.enc, k8, k9, k12, k13, k14, sm, aw, DP, SS, hL, hlt, w1, w2, t1, t2, p1, p2, gl', gm', g0', g1', a1, a2, a3, a4, binS, freeze1_cons, fillS, Tdb_mu, Tdb_fns]
    · have a1 := ne48 hX
      have a2 := ne48' hX
      simp [bx, Fr.enc, k8, k9, k12, k13, k14, sm, aw, DP, SS, hL, hlt, w1, w2, t1, t2, p1, p2, gl', gm', g0', g1', a1, a2, binS, freeze1_cons, fillS, Tdb_mu, Tdb_fns]
    · have a3 := ne48 hY
      have a4 := ne48' hY
      simp [bx, Fr.enc, k8, k9, k12, k13, k14, sm, aw, DP, SS, hL, hlt, w1, w2, t1, t2, p1, p2, gl', gm', g0', g1', a3, a4, binS, freeze1_cons, fillS, Tdb_mu, Tdb_fns]
    · simp [bx, Fr.enc, k8, k9, k12, k13, k14, sm, aw, DP, SS, hL, hlt, w1, w2, t1, t2, p1, p2, gl', gm', g0', g1', binS, freeze1_cons, fillS, Tdb_mu, Tdb_fns]
end Go.Proofs.YtgdpephlpdonnaaGreatDoor
