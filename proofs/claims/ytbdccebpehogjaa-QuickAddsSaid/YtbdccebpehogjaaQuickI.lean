/-
  QuickAdds answers true on all values. AcvNo conditions beyond the lemmas' own hypotheses.
-/
import Derived.Test.YtbdccebpehogjaaQuickH
set_option linter.unusedSimpArgs false
set_option linter.unnecessarySimpa false
set_option linter.unusedVariables false
set_option linter.constructorNameAsVariable false

/-
 QuickAdds answers true on all values.
-/
namespace Go.Proofs.Ytbdccebpehogjaa
open Go Go.Abs Go.Flo Go.Limbs
variable {base : Prot}
set_option maxRecDepth 20000
attribute [local irreducible] vc
attribute [local simp] pureS touchV freezeL fuel shiftV u64 au
theorem vl_add (a c : Nat) : vlQ a + vlQ c = mkRat (sv a + sv c) sc := by
 have hs : sc ≠ 0 := by have := sc_pos; omega
 unfold vlQ
 rw [Rat.mkRat_add_mkRat _ _ hs hs, Rat.mkRat_eq_iff (Nat.mul_ne_zero hs hs) hs, ← Int.add_mul, Int.natCast_mul, Int.mul_assoc]
def sAdds5 : List PVal → Option PVal
 | [.flt .f64 a, .flt .f64 b, .flt .f64 c, .flt .f64 d] => if (a < 18446744073709551616 ∧ b < 18446744073709551616) ∧ c < 18446744073709551616 ∧ d < 18446744073709551616 then some (.bool true) else none
 | _ => none
theorem one_facts {a : Nat} (h : a < 18446744073709551616) : sFin [.flt .f64 a] = some (.bool (decide (rg a < 9218868437227405312))) ∧ sAbs [.flt .f64 a] = some (.flt .f64 (rg a)) ∧ (decide (rg a < 9218868437227405312) = true → binF .gtr .f64 (rg a) 9094988921128908188 = some (.bool (decide (9094988921128908188 < rg a)))) ∧
  (decide (rg a < 9218868437227405312) = true → decide (9094988921128908188 < rg a) = false → MidW a ∧ sBack5 [.flt .f64 a] = some (.tup [(ofQ (vlQ a)).enc, .bool true]) ∧ Sm 64 (vlQ a)) := by
 have hl : rg a < 9223372036854775808 := Nat.mod_lt _ (by decide)
 have eW : wd false (rg a) = rg a := by unfold wd; rw [if_neg (by decide)]
 refine ⟨if_pos h, if_pos h, fun hf => ?_, fun hf hg => ?_⟩
 ·have hf := of_decide_eq_true hf
  have hn : NoNaN (rg a) := by have := (fin_wd false hf).noNaN; rwa [eW] at this
  have hk := ky_wd false (r := rg a) hl
  rw [eW, if_neg (by decide)] at hk
  rw [(ord_lt hn (b := 9094988921128908188) ⟨by decide, by decide⟩).2.1, hk, show ky 9094988921128908188 = 9094988921128908188 by decide]
  congr 2
  exact decide_eq_decide.2 ⟨fun h => by omega, fun h => by omega⟩
 ·have hf := of_decide_eq_true hf
  have hg := of_decide_eq_false hg
  have hb : sBack5 [.flt .f64 a] = some (backP a) := if_pos h
  rw [backP_fin hf] at hb
  exact ⟨⟨⟨h, hf⟩, by omega⟩, hb, sm_vlQ ⟨h, hf⟩⟩
theorem sum_facts {a c : Nat} (ha : Sm 64 (vlQ a)) (hc : Sm 64 (vlQ c)) : f2 addP [(ofQ (vlQ a)).enc, (ofQ (vlQ c)).enc] = some (.tup [(heldQ (mkRat (sv a + sv c) sc)).1.enc, .int .i64 (heldQ (mkRat (sv a + sv c) sc)).2]) ∧
  (((heldQ (mkRat (sv a + sv c) sc)).2 : Int) = 0 → f1 boundF [(heldQ (mkRat (sv a + sv c) sc)).1.enc] = some (.cpx .f64 (wk (kLo (mkRat (sv a + sv c) sc))) (wk (kHi (mkRat (sv a + sv c) sc))))) := by
 have h1 : f2 addP [(ofQ (vlQ a)).enc, (ofQ (vlQ c)).enc] = some (addP (ofQ (vlQ a)) (ofQ (vlQ c))) := f2_at (wf_ofQ _) (wf_ofQ _)
 unfold addP at h1
 rw [addF_num ha hc, vl_add] at h1
 refine ⟨h1, fun h0 => ?_⟩
 by_cases hs : Sm 64 (mkRat (sv a + sv c) sc)
 ·rw [heldQ_ok hs, f1_at (wf_ofQ _), boundF_num hs]
 ·unfold heldQ at h0
  rw [if_neg hs] at h0
  simp at h0
theorem equal_self {k : Int} (h : k.natAbs ≤ 9218868437227405312) : sEqual [.flt .f64 (wk k), .flt .f64 (wk k)] = some (.bool true) := by
 have hn := noNaN_wk h
 simp only [sEqual]
 rw [if_pos ⟨hn.1, hn.1⟩, eqW_self hn]
theorem adds5_ok : FnOk Try.prog base 6 (pureS sAdds5) := by
 refine pure_of_vc vmix (Tq5_ok (S5_ok aw5_ok)) globNone low6 fun args z hs hf => ?_
 unfold sAdds5 at hs
 split at hs
 case h_2 => cases hs
 rename_i a b c d
 split at hs
 case isFalse => cases hs
 rename_i hb
 obtain ⟨⟨ba, bb⟩, bc, bd⟩ := hb
 cases hs
 refine ⟨by simp [lf6], ?_⟩
 obtain ⟨a1, a2, a3, a4⟩ := one_facts ba
 obtain ⟨b1, b2, b3, b4⟩ := one_facts bb
 obtain ⟨c1, c2, c3, c4⟩ := one_facts bc
 obtain ⟨d1, d2, d3, d4⟩ := one_facts bd
 have k1 := k_bd (mkRat (sv a + sv c) sc)
 have k2 := k_bd (mkRat (sv b + sv d) sc)
 refine adds_walk (S := S5 sAw5) (C := 0) (D := 0) (W := wk (kLo (mkRat (sv a + sv c) sc))) (V := wk (kHi (mkRat (sv b + sv d) sc))) (q1 := wk (kLo (mkRat (sv a + sv c) sc))) (q2 := wk (kHi (mkRat (sv a + sv c) sc))) (q3 := wk (kLo (mkRat (sv b + sv d) sc))) (q4 := wk (kHi (mkRat (sv b + sv d) sc)))
  (s1 := decide ((vlQ a).num < 0)) (x1 := (limbs (vlQ a).num.natAbs).map u64) (y1 := (limbs (vlQ a).den).map u64) (s2 := decide ((vlQ b).num < 0)) (x2 := (limbs (vlQ b).num.natAbs).map u64) (y2 := (limbs (vlQ b).den).map u64)
  (s3 := decide ((vlQ c).num < 0)) (x3 := (limbs (vlQ c).num.natAbs).map u64) (y3 := (limbs (vlQ c).den).map u64) (s4 := decide ((vlQ d).num < 0)) (x4 := (limbs (vlQ d).num.natAbs).map u64) (y4 := (limbs (vlQ d).den).map u64)
  (s5 := (heldQ (mkRat (sv a + sv c) sc)).1.s) (x5 := (heldQ (mkRat (sv a + sv c) sc)).1.n.map u64) (y5 := (heldQ (mkRat (sv a + sv c) sc)).1.d.map u64) (s6 := (heldQ (mkRat (sv b + sv d) sc)).1.s) (x6 := (heldQ (mkRat (sv b + sv d) sc)).1.n.map u64) (y6 := (heldQ (mkRat (sv b + sv d) sc)).1.d.map u64)
  (e := ((heldQ (mkRat (sv a + sv c) sc)).2 : Int)) (f := ((heldQ (mkRat (sv b + sv d) sc)).2 : Int)) rfl a1 b1 c1 d1 a2 b2 c2 d2 a3 b3 c3 d3 fun fa fb fc fd ga gb gc gd => ?_
 obtain ⟨ma, za, sa⟩ := a4 fa ga
 obtain ⟨mb, zb, sb⟩ := b4 fb gb
 obtain ⟨mc, zc, s_c⟩ := c4 fc gc
 obtain ⟨md, zd, sd⟩ := d4 fd gd
 obtain ⟨t1, t2⟩ := sum_facts sa s_c
 obtain ⟨t3, t4⟩ := sum_facts sb sd
 have had : sAdd5 [.cpx .f64 a b, .cpx .f64 c d] = some (.cpx .f64 (wk (kLo (mkRat (sv a + sv c) sc))) (wk (kHi (mkRat (sv b + sv d) sc)))) := if_pos ⟨⟨ma, mb⟩, mc, md⟩
 rw [enc_ofQ] at za zb zc zd
 rw [enc_ofQ, enc_ofQ] at t1 t3
 have q1 := equal_self (k := kLo (mkRat (sv a + sv c) sc)) (by omega)
 have q2 := equal_self (k := kHi (mkRat (sv b + sv d) sc)) (by omega)
 exact ⟨had, za, zb, zc, zd, t1, t3, fun h => ⟨t2 h, q1⟩, fun h => ⟨t4 h, q2⟩⟩
end Go.Proofs.Ytbdccebpehogjaa
