/-
  QuickOrder and QuickWhole answer true on all values. AcvNo conditions beyond the lemmas' own hypotheses.
-/
import Derived.Test.YtbdccebpehogjaaQuickF
set_option linter.unusedSimpArgs false
set_option linter.unnecessarySimpa false
set_option linter.unusedVariables false
set_option linter.constructorNameAsVariable false

/-
 QuickOrder and QuickWhole answer true on all values.
-/
namespace Go.Proofs.Ytbdccebpehogjaa
open Go Go.Abs Go.Flo Go.Limbs
variable {base : Prot}
set_option maxRecDepth 20000
attribute [local irreducible] vc
attribute [local simp] pureS touchV freezeL fuel shiftV u64 au
variable {S : Nat → List PVal → Option PVal}
theorem order_walk {s t u ok1 ok2 : Bool} {xs ys us vs ns ms : List PVal} {a1 a2 b1 b2 n1 n2 m1 m2 : Nat} {k : Int} (v0 : S 0 [] = some (.bool true)) (v1 : S 7 [.agg [.bool s, .lst xs, .lst ys]] = some (.bool ok1)) (v2 : S 7 [.agg [.bool t, .lst us, .lst vs]] = some (.bool ok2))
  (v3 : S 3 [.agg [.bool s, .lst xs, .lst ys]] = some (.cpx .f64 a1 a2)) (v4 : S 3 [.agg [.bool t, .lst us, .lst vs]] = some (.cpx .f64 b1 b2))
  (v5 : ok1 = true → ok2 = true → S 18 [.agg [.bool s, .lst xs, .lst ys]] = some (.agg [.bool u, .lst ns, .lst ms]) ∧ S 3 [.agg [.bool u, .lst ns, .lst ms]] = some (.cpx .f64 n1 n2) ∧ S 11 [.agg [.bool s, .lst xs, .lst ys], .agg [.bool t, .lst us, .lst vs]] = some (.int .i64 k) ∧
   (k ≤ 0 → binF .gtr .f64 a1 b1 = some (.bool false) ∧ binF .gtr .f64 a2 b2 = some (.bool false)) ∧ Op.negFloat .f64 a2 = m2 ∧ Op.negFloat .f64 a1 = m1 ∧ binF .eql .f64 n1 m2 = some (.bool true) ∧ binF .eql .f64 n2 m1 = some (.bool true)) :
  vc (Tq5 S) lf7.body (endQ (Tq5 S) lf7.results (.bool true)) (initFr [.p (.agg [.bool s, .lst xs, .lst ys]), .p (.agg [.bool t, .lst us, .lst vs])]) [] := by
 by_cases h1 : 12 < xs.length
 ·have h1 := lenT h1
  simp only [show ((12 : Nat) : Int) = 12 from rfl] at h1
  simp [lf7, fillA, h1, v0, Tq5_mu, Tq5_a, Tq5_b]
 have h1 := lenF h1
 by_cases h2 : 12 < ys.length
 ·have h2 := lenT h2
  simp only [show ((12 : Nat) : Int) = 12 from rfl] at h1 h2
  simp [lf7, fillA, h1, h2, v0, Tq5_mu, Tq5_a, Tq5_b]
 have h2 := lenF h2
 by_cases h3 : 12 < us.length
 ·have h3 := lenT h3
  simp only [show ((12 : Nat) : Int) = 12 from rfl] at h1 h2 h3
  simp [lf7, fillA, h1, h2, h3, v0, Tq5_mu, Tq5_a, Tq5_b]
 have h3 := lenF h3
 by_cases h4 : 12 < vs.length
 ·have h4 := lenT h4
  simp only [show ((12 : Nat) : Int) = 12 from rfl] at h1 h2 h3 h4
  simp [lf7, fillA, h1, h2, h3, h4, v0, Tq5_mu, Tq5_a, Tq5_b]
 have h4 := lenF h4
 simp only [show ((12 : Nat) : Int) = 12 from rfl] at h1 h2 h3 h4
 cases ok1 with
 | false => simp [lf7, fillA, h1, h2, h3, h4, v0, v1, Tq5_mu, Tq5_a, Tq5_b]
 | true =>
  cases ok2 with
  | false => simp [lf7, fillA, h1, h2, h3, h4, v0, v1, v2, Tq5_mu, Tq5_a, Tq5_b]
  | true =>
   obtain ⟨w1, w2, w3, w4, w5, w6, w7, w8⟩ := v5 rfl rfl
   by_cases hk : k ≤ 0
   ·obtain ⟨q1, q2⟩ := w4 hk
    simp [lf7, fillA, h1, h2, h3, h4, v0, v1, v2, v3, v4, w1, w2, w3, hk, q1, q2, w5, w6, w7, w8, Tq5_mu, Tq5_a, Tq5_b]
   ·simp [lf7, fillA, h1, h2, h3, h4, v0, v1, v2, v3, v4, w1, w2, w3, hk, w5, w6, w7, w8, Tq5_mu, Tq5_a, Tq5_b]
theorem cmp_le {p q : Rat} (h : cmpQ p q ≤ 0) : p.num * q.den ≤ q.num * p.den := by
 unfold cmpQ cmpZ at h
 split at h
 ·omega
 ·split at h <;> omega
theorem neg_ky {k : Int} (h : k.natAbs ≤ 9218868437227405312) : NoNaN (Op.negFloat .f64 (wk k)) ∧ ky (Op.negFloat .f64 (wk k)) = -k := by
 have hn := noNaN_wk h
 rw [neg_word hn.1]
 have h2 : rg (wk k) = k.natAbs := by unfold wk; exact rg_wd _ (by omega)
 refine ⟨⟨wd_lt _ (by omega), by rw [rg_wd _ (by omega), h2]; exact h⟩, ?_⟩
 rw [ky_wd _ (by omega)]
 have h3 := ky_wk (k := k) (by omega)
 unfold ky at h3
 cases hs : sg (wk k) <;> rw [hs] at h3 <;> simp at h3 ⊢ <;> omega
theorem order5_ok : FnOk Try.prog base 7 (pureS sTwo5) := by
 refine pure_of_vc vmix (Tq5_ok (S5_ok aw5_ok)) globNone low7 fun args z hs hf => ?_
 unfold sTwo5 at hs
 split at hs
 case h_2 => cases hs
 rename_i v u
 split at hs
 case h_2 => cases hs
 rename_i x y hdx hdy
 obtain ⟨rfl, wx⟩ := decF_some hdx
 obtain ⟨rfl, wy⟩ := decF_some hdy
 cases hs
 refine ⟨by simp [lf7], ?_⟩
 obtain ⟨a1, a2, ea, na1, na2⟩ := bound_words x
 obtain ⟨b1, b2, eb, nb1, nb2⟩ := bound_words y
 have v1 : f1 boolF [x.enc] = some (.bool x.ok) := vF wx
 have v2 : f1 boolF [y.enc] = some (.bool y.ok) := vF wy
 have v3 : f1 boundF [x.enc] = some (.cpx .f64 a1 a2) := by rw [f1_at wx, ea]
 have v4 : f1 boundF [y.enc] = some (.cpx .f64 b1 b2) := by rw [f1_at wy, eb]
 have v6 : f2 cmpP [x.enc, y.enc] = some (.int .i64 (cmpF x y)) := f2_at wx wy
 have v7 : f1 negP [x.enc] = some (negF x).enc := f1_at wx
 obtain ⟨n1, n2, en, nn1, nn2⟩ := bound_words (negF x)
 have v8 : f1 boundF [(negF x).enc] = some (.cpx .f64 n1 n2) := by rw [f1_at (wf_negF x), en]
 simp only [Fr.enc] at v1 v2 v3 v4 v6 v7 v8 ⊢
 refine order_walk (S := S5 sAw5) (m1 := Op.negFloat .f64 a1) (m2 := Op.negFloat .f64 a2) rfl v1 v2 v3 v4 fun ho1 ho2 => ⟨v7, v8, v6, ?_⟩
 obtain ⟨p, hp, rfl⟩ := Fr.ok_of ho1
 obtain ⟨q, hq, rfl⟩ := Fr.ok_of ho2
 rw [boundF_num hp] at ea
 rw [boundF_num hq] at eb
 rw [negF_num hp, boundF_num (Sm_neg hp)] at en
 have pb := k_bd p
 have qb := k_bd q
 have mb := k_bd (-p)
 have f1 := (ord_lt na1 nb1).2.1
 have f2 := (ord_lt na2 nb2).2.1
 cases ea
 cases eb
 cases en
 rw [cmpF_num hp hq]
 have k1 := ky_wk (k := kLo p) (by omega)
 have k2 := ky_wk (k := kHi p) (by omega)
 have k3 := ky_wk (k := kLo q) (by omega)
 have k4 := ky_wk (k := kHi q) (by omega)
 have k5 := ky_wk (k := kLo (-p)) (by omega)
 have k6 := ky_wk (k := kHi (-p)) (by omega)
 obtain ⟨g1, g2⟩ := neg_ky (k := kLo p) (by omega)
 obtain ⟨g3, g4⟩ := neg_ky (k := kHi p) (by omega)
 refine ⟨fun hk => ?_, rfl, rfl, ?_, ?_⟩
 ·have hc := cmp_le hk
  have h1 := kLo_mono hc
  have h2 := kHi_mono hc
  rw [k1, k3, decide_eq_false (by omega)] at f1
  rw [k2, k4, decide_eq_false (by omega)] at f2
  exact ⟨f1, f2⟩
 ·rw [(ord_lt nn1 g3).2.2.2.2.1, k5, g4, kLo_neg, decide_eq_true rfl]
 ·rw [(ord_lt nn2 g1).2.2.2.2.1, k6, g2, kHi_neg, decide_eq_true rfl]
theorem whole_walk {n d P : Int} {s t : Bool} {xs ys us vs : List PVal} {w FW L : Nat} (v0 : S 0 [] = some (.bool true))
  (vw : -9007199254740992 < n → n < 9007199254740992 → 0 ≤ d → d ≤ 60 → shiftI .shl .i64 1 d = some (.int .i64 P) ∧ S 19 [.int .i64 n, .int .i64 P] = some (.agg [.bool s, .lst xs, .lst ys]) ∧ S 3 [.agg [.bool s, .lst xs, .lst ys]] = some (.cpx .f64 w w) ∧ S 1 [.flt .f64 w] = some (.tup [.agg [.bool t, .lst us, .lst vs], .bool true]) ∧
   S 12 [.cpx .f64 w w] = some (.bool true) ∧ S 6 [.agg [.bool s, .lst xs, .lst ys], .agg [.bool t, .lst us, .lst vs]] = some (.bool true) ∧ FloatKind.f64.nearest n = FW ∧ IntKind.i64.wrap (-d) = -d ∧ S 20 [.flt .f64 FW, .int .i64 (-d)] = some (.flt .f64 L) ∧ binF .eql .f64 w L = some (.bool true)) :
  vc (Tq5 S) lf8.body (endQ (Tq5 S) lf8.results (.bool true)) (initFr [.p (.int .i64 n), .p (.int .i64 d)]) [] := by
 by_cases h1 : n ≤ -9007199254740992
 ·simp [lf8, fillA, h1, v0, Tq5_mu, Tq5_a, Tq5_b]
 by_cases h2 : 9007199254740992 ≤ n
 ·simp [lf8, fillA, h1, h2, v0, Tq5_mu, Tq5_a, Tq5_b]
 by_cases h3 : d < 0
 ·simp [lf8, fillA, h1, h2, h3, v0, Tq5_mu, Tq5_a, Tq5_b]
 by_cases h4 : 60 < d
 ·simp [lf8, fillA, h1, h2, h3, h4, v0, Tq5_mu, Tq5_a, Tq5_b]
 obtain ⟨w1, w2, w3, w4, w5, w6, w7, w8, w9, w10⟩ := vw (by omega) (by omega) (by omega) (by omega)
 simp [lf8, fillA, h1, h2, h3, h4, v0, w1, w2, w3, w4, w5, w6, w7, w8, w9, w10, Tq5_mu, Tq5_a, Tq5_b]
def sInts5 : List PVal → Option PVal
 | [.int .i64 _, .int .i64 _] => some (.bool true)
 | _ => none
theorem whole_facts {n : Int} {d : Nat} (h : n.natAbs < 9007199254740992) (hd : d ≤ 60) : ∃ k : Int, k.natAbs < 9218868437227405312 ∧ vz k = n * (2 ^ (1074 - d) : Nat) ∧ (n = 0 → k = 0) ∧ (n ≠ 0 → ∃ r r1 : Nat, wk k = wd (decide (n < 0)) r ∧ FloatKind.f64.nearest n = wd (decide (n < 0)) r1 ∧ Fin64 (wd (decide (n < 0)) r1) ∧ 0 < rg (wd (decide (n < 0)) r1) ∧ sg (wd (decide (n < 0)) r1) = decide (n < 0) ∧ LdOk (wd (decide (n < 0)) r1) (-(d : Int)) r) := by
 by_cases h0 : n = 0
 ·subst h0
  exact ⟨0, by decide, by rw [vz_zero, Int.zero_mul], fun _ => rfl, fun h => absurd rfl h⟩
 obtain ⟨r, hr⟩ := mg_of (m := n.natAbs) (k := 1074 - d) (by omega)
 obtain ⟨r1, g1, g2, g3, g4⟩ := nearest_int (n := n.natAbs) (by omega) (by omega)
 have hle : mg r ≤ mg r1 := by
  rw [hr, g2]
  unfold sc
  exact Nat.mul_le_mul_left _ (pow_mono (p := 1074 - d) (q := 1074) (by omega))
 have hr2 := mg_le_iff.1 hle
 have hr0 : 0 < r := by
  refine Nat.pos_of_ne_zero fun h1 => ?_
  rw [h1, mg_zero] at hr
  have := Nat.mul_pos (show 0 < n.natAbs by omega) (two_pos (1074 - d))
  omega
 have hnear : FloatKind.f64.nearest n = wd (decide (n < 0)) r1 := by
  have e2 : FloatKind.f64.nearest n = Ieee.double.nearest (decide (n < 0)) n.natAbs 0 := rfl
  have e3 := nearest_is (decide (n < 0)) (mag := n.natAbs) 1074 (by omega)
  rw [show ((1074 : Nat) : Int) - 1074 = 0 by omega] at e3
  have e4 := g2.symm
  unfold sc at e4
  rw [e2, e3, e4, rn_mg, Nat.min_eq_left (Nat.le_of_lt g3)]
 have hld : LdOk (wd (decide (n < 0)) r1) (-(d : Int)) r := by
  refine ⟨?_, by omega⟩
  rw [rg_wd _ (by omega), g2, hr]
  unfold sc
  rw [show (- -(d : Int)).toNat = d by omega, show (-(d : Int)).toNat = 0 by omega, Nat.pow_zero, Nat.mul_one, Nat.mul_assoc, ← Nat.pow_add]
  congr 2
  omega
 have fin1 := fin_wd (decide (n < 0)) g3
 by_cases hn : n < 0
 ·refine ⟨-(r : Int), by omega, ?_, fun h => absurd h h0, fun _ => ⟨r, r1, ?_, hnear, fin1, by rw [rg_wd _ (by omega)]; exact g4, sg_wd _ (by omega), hld⟩⟩
  ·rw [vz_neg, vz_nat, hr]
   have : n = -(n.natAbs : Int) := by omega
   rw [this, Int.natAbs_neg, Int.natAbs_natCast, Int.neg_mul, Int.natCast_mul]
  ·rw [wk_negn hr0, decide_eq_true hn]
 ·refine ⟨(r : Int), by omega, ?_, fun h => absurd h h0, fun _ => ⟨r, r1, ?_, hnear, fin1, by rw [rg_wd _ (by omega)]; exact g4, sg_wd _ (by omega), hld⟩⟩
  ·rw [vz_nat, hr]
   have : n = (n.natAbs : Int) := by omega
   rw [this, Int.natAbs_natCast, Int.natCast_mul]
  ·rw [wk_nat, decide_eq_false hn]
   unfold wd
   rw [if_neg (by decide)]
theorem abs_range {k : Int} (h : k.natAbs < 9218868437227405312) : -9218868437227405312 < k ∧ k < 9218868437227405312 := by omega
theorem abs_up {k : Int} (h : k.natAbs < 9218868437227405312) : k.natAbs < 9223372036854775808 := by omega
theorem whole5_ok : FnOk Try.prog base 8 (pureS sInts5) := by
 refine pure_of_vc vmix (Tq5_ok (S5_ok aw5_ok)) globNone low8 fun args z hs hf => ?_
 unfold sInts5 at hs
 split at hs
 case h_2 => cases hs
 rename_i n dz
 cases hs
 refine ⟨by simp [lf8], ?_⟩
 by_cases hin : -9007199254740992 < n ∧ n < 9007199254740992 ∧ 0 ≤ dz ∧ dz ≤ 60
 case neg => exact whole_walk (S := S5 sAw5) (P := 0) (s := false) (t := false) (xs := []) (ys := []) (us := []) (vs := []) (w := 0) (FW := 0) (L := 0) rfl fun h1 h2 h3 h4 => absurd ⟨h1, h2, h3, h4⟩ hin
 obtain ⟨i1, i2, i3, i4⟩ := hin
 obtain ⟨d, rfl⟩ : ∃ d : Nat, dz = d := ⟨dz.toNat, by omega⟩
 obtain ⟨k, k1, k2, k3, k4⟩ := whole_facts (n := n) (d := d) (by omega) (by omega)
 have hpd : ((2 ^ d : Nat) : Int) ≤ 1152921504606846976 := by
  have := pow_mono (show d ≤ 60 by omega)
  have e : (2 : Nat) ^ 60 = 1152921504606846976 := by decide
  omega
 have hpp : (0 : Int) < ((2 ^ d : Nat) : Int) := by have := two_pos d; omega
 have hsh : shiftI .shl .i64 1 (d : Int) = some (.int .i64 ((2 ^ d : Nat) : Int)) := by
  unfold shiftI
  rw [if_neg (by omega)]
  show some (PVal.int .i64 (IntKind.i64.wrap (1 * 2 ^ (min (d : Int).toNat 64)))) = _
  rw [Int.toNat_natCast, Nat.min_eq_left (by omega), Int.one_mul]
  have e : ((2 : Int) ^ d) = ((2 ^ d : Nat) : Int) := by rw [Int.natCast_pow]; rfl
  rw [e, IntWalk.i64_in _ (by omega)]
 have q1 := sQOf_at (n := n) (d := ((2 ^ d : Nat) : Int)) (by omega) (by omega)
 obtain ⟨q, hq⟩ : ∃ q, q = Rat.divInt n ((2 ^ d : Nat) : Int) := ⟨_, rfl⟩
 have hqm : q = mkRat n (2 ^ d) := by rw [hq, Rat.divInt_ofNat]
 have hdne : (2 ^ d : Nat) ≠ 0 := by have := two_pos d; omega
 have hscne : sc ≠ 0 := by have := sc_pos; omega
 have hcross : q.num * ((2 ^ d : Nat) : Int) = n * q.den := by
  have h1 : mkRat q.num q.den = mkRat n (2 ^ d) := by rw [Rat.mkRat_self, hqm]
  exact (Rat.mkRat_eq_iff (Rat.den_nz _) hdne).1 h1
 have hsc2 : (sc : Int) = ((2 ^ d : Nat) : Int) * ((2 ^ (1074 - d) : Nat) : Int) := by
  rw [← Int.natCast_mul, ← Nat.pow_add, show d + (1074 - d) = 1074 by omega]; rfl
 have hex : q.num * sc = vz k * q.den := by
  rw [k2, hsc2, ← Int.mul_assoc, hcross, Int.mul_assoc, Int.mul_comm (q.den : Int), ← Int.mul_assoc]
 have hk2 := abs_range k1
 obtain ⟨e1, e2⟩ := k_exact hex hk2
 have hvq : vlQ (wk k) = q := by
  unfold vlQ
  rw [sv_wk (abs_up k1), ← Rat.mkRat_self q, Rat.mkRat_eq_iff hscne (Rat.den_nz _), hex]
 have hfin := fin_wk k1
 have hsm : Sm 64 q := by have := sm_vlQ hfin; rwa [hvq] at this
 have v3 : f1 boundF [(ofQ q).enc] = some (.cpx .f64 (wk k) (wk k)) := by rw [f1_at (wf_ofQ _), boundF_num hsm, e1, e2]
 have v4 : sBack5 [.flt .f64 (wk k)] = some (.tup [(ofQ q).enc, .bool true]) := by
  have : sBack5 [.flt .f64 (wk k)] = some (backP (wk k)) := if_pos hfin.1
  rw [this, backP_fin hfin.2, hvq]
 have v5 : sExact [.cpx .f64 (wk k) (wk k)] = some (.bool true) := by
  simp only [sExact]
  rw [if_pos ⟨hfin.noNaN, hfin.noNaN⟩, infS_fin hfin]; simp
 have v6 := sameP_self q
 have wd1 : IntKind.i64.wrap (-(d : Int)) = -(d : Int) := IntWalk.i64_in _ (by omega)
 have hL : ∃ FW, FloatKind.f64.nearest n = FW ∧ sLdexp [.flt .f64 FW, .int .i64 (-(d : Int))] = some (.flt .f64 (wk k)) := by
  by_cases h0 : n = 0
  ·refine ⟨0, by rw [h0]; exact near0, ?_⟩
   rw [k3 h0, wk_zero]
   exact ldnx_ok.ldz _ (by omega)
  ·obtain ⟨r, r1, g1, g2, g3, g4, g5, g6⟩ := k4 h0
   refine ⟨_, g2, ?_⟩
   have := ldexp_at g3 (by omega) g4 g6
   rw [g5, ← g1] at this
   exact this
 obtain ⟨FW, f1', f2'⟩ := hL
 have f3 := (ord_lt hfin.noNaN hfin.noNaN).2.2.2.2.1
 rw [decide_eq_true rfl] at f3
 rw [← hq] at q1
 rw [enc_ofQ] at q1 v3 v4 v6
 exact whole_walk (S := S5 sAw5) rfl fun _ _ _ _ => ⟨hsh, q1, v3, v4, v5, v6, f1', wd1, f2', f3⟩
end Go.Proofs.Ytbdccebpehogjaa
