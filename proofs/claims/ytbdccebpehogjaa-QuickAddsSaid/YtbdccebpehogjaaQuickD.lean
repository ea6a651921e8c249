/-
  What Back and the sum of quick compute. AcvNo conditions beyond the lemmas' own hypotheses.
-/
import Derived.Test.YtbdccebpehogjaaQuickC
set_option linter.unusedSimpArgs false
set_option linter.unnecessarySimpa false
set_option linter.unusedVariables false
set_option linter.constructorNameAsVariable false

/-
 The number of a float: quick.Back and the reference's Back.
-/
namespace Go.Proofs.Ytbdccebpehogjaa
open Go Go.Abs Go.Flo Go.Limbs
variable {base : Prot}
set_option maxRecDepth 20000
attribute [local irreducible] vc
attribute [local simp] pureS touchV freezeL fuel shiftV u64 au
def vlQ (b : Nat) : Rat := mkRat (sv b) sc
theorem sv_z (b : Nat) : sv b = zOf (sg b) (mg (rg b)) := by
 unfold sv zOf
 cases sg b <;> rfl
theorem vlQ_zero {b : Nat} (h : rg b = 0) : vlQ b = 0 := by
 have e : sv b = 0 := by unfold sv; rw [h, mg_zero]; cases sg b <;> rfl
 unfold vlQ
 rw [e, Rat.zero_mkRat]
theorem zOf_nabs (s : Bool) (a : Nat) : (zOf s a).natAbs = a := by unfold zOf; split <;> omega
theorem sm_vlQ {b : Nat} (h : Fin64 b) : Sm 64 (vlQ b) := by
 have hs : sc ≠ 0 := by have := sc_pos; omega
 have h1 : mg (rg b) < 2 ^ 4000 := by
  have h2 := mg_lt h.2
  have h3 := mg_join (k := 2046) (q := 4503599627370496) (Nat.le_refl _) (by decide)
  rw [show 2046 * 4503599627370496 + 4503599627370496 = 9218868437227405312 by decide] at h3
  rw [h3, ← p52, ← Nat.pow_add 2 52 2046] at h2
  have t := pow_mono (p := 52 + 2046) (q := 4000) (by omega)
  exact Nat.lt_of_lt_of_le h2 t
 have h2 := Nat.pow_lt_pow_right (a := 2) (m := 1074) (n := 4000) (by omega) (by omega)
 have h2 : sc < 2 ^ 4000 := by unfold sc; exact h2
 have e : (2 : Nat) ^ 4000 ≤ B ^ 64 := by have t := pow_mono (p := 4000) (q := 64 * 64) (by omega); rwa [← pow64, ← Nat.pow_mul 2 64 64]
 unfold vlQ
 rw [sv_z]
 refine ⟨?_, ?_⟩
 ·rw [mk_num _ _ hs]
  rw [zOf_nabs]
  exact len_le (Nat.lt_of_le_of_lt (Nat.div_le_self _ _) (Nat.lt_of_lt_of_le h1 e))
 ·rw [mk_den _ _ hs]
  exact len_le (Nat.lt_of_le_of_lt (Nat.div_le_self _ _) (Nat.lt_of_lt_of_le h2 e))
theorem vlQ_mk {b a d : Nat} (hd : d ≠ 0) (h : a * sc = mg (rg b) * d) : mkRat (zOf (sg b) a) d = vlQ b := by
 have hs : sc ≠ 0 := by have := sc_pos; omega
 unfold vlQ
 rw [sv_z, Rat.mkRat_eq_iff hd hs]
 unfold zOf
 have h' : (a : Int) * sc = (mg (rg b) : Int) * d := by exact_mod_cast h
 cases sg b
 ·simpa using h'
 ·simp [Int.neg_mul]; exact h'
def backP (b : Nat) : PVal := if rg b < 9218868437227405312 then .tup [(ofQ (vlQ b)).enc, .bool true] else .tup [zF.enc, .bool false]
def sBack5 : List PVal → Option PVal
 | [.flt .f64 b] => if b < 18446744073709551616 then some (backP b) else none
 | _ => none
theorem fr_rung {q : Nat} (h1 : 4503599627370496 ≤ q) (h2 : q < 9007199254740992) : 1022 * 4503599627370496 + (q - 4503599627370496) = 1021 * 4503599627370496 + q ∧ 1021 * 4503599627370496 + q < 9218868437227405312 ∧ 1021 * 4503599627370496 + q < 9223372036854775808 ∧ 0 < 1021 * 4503599627370496 + q := by omega
theorem frac_facts {x : Nat} (h : Fin64 x) (h0 : 0 < rg x) (hsg : sg x = false) : ∃ (q r1 : Nat) (by5 : Int), frE x - 53 = by5 ∧ -2000 ≤ by5 ∧ by5 ≤ 2000 ∧ Fin64 (frW x) ∧ 0 < rg (frW x) ∧ sg (frW x) = false ∧ LdOk (frW x) 53 r1 ∧ Fin64 r1 ∧ (FloatKind.f64.decode r1).toInt .zero = some (q : Int) ∧ q < 9007199254740992 ∧ 0 < q ∧
  (q * 2 ^ by5.toNat * sc = mg (rg x) * 2 ^ (-by5).toNat) := by
 obtain ⟨k, q, h1, h2, h3, h4, h5⟩ := nrm_facts h h0
 have hE : nrmE x = 0 ∨ nrmE x = -52 := by unfold nrmE; split <;> simp
 have hrg : rg (nrmW x) = k * 4503599627370496 + q := by rw [h4, rg_wd _ (by omega)]
 have e1 : (k * 4503599627370496 + q) / 4503599627370496 = k + 1 := by omega
 have e2 : (k * 4503599627370496 + q) % 4503599627370496 = q - 4503599627370496 := by omega
 obtain ⟨fr1, fr2, fr3, fr4⟩ := fr_rung h1 h2
 have hfw : frW x = wd false (1021 * 4503599627370496 + q) := by
  unfold frW
  rw [hrg, e2, hsg, fr1]
 have hfe : frE x = nrmE x + ((k : Int) + 1) - 1022 := by
  unfold frE
  rw [hrg, e1]; omega
 obtain ⟨r1, hr1, hr2, hr3, hr4⟩ := nearest_int (n := q) (by omega) (by omega)
 have eW : wd false r1 = r1 := by unfold wd; rw [if_neg (by decide)]
 have f1 : Fin64 r1 := by have := fin_wd false hr3; rwa [eW] at this
 have g1 : rg r1 = r1 := by have := rg_wd false (r := r1) (by omega); rwa [eW] at this
 have s1 : sg r1 = false := by have := sg_wd false (r := r1) (by omega); rwa [eW] at this
 refine ⟨q, r1, frE x - 53, rfl, by rw [hfe]; omega, by rw [hfe]; omega, by rw [hfw]; exact fin_wd _ fr2, by rw [hfw, rg_wd _ fr3]; exact fr4, by rw [hfw, sg_wd _ fr3], ⟨?_, hr3⟩, f1, toInt_int f1 s1 (by rw [g1]; exact hr2), h2, by omega, ?_⟩
 ·rw [hfw, rg_wd _ fr3, mg_join h1 (Nat.le_of_lt h2), hr2]
  unfold sc
  rw [show (-(53 : Int)).toNat = 0 by decide, show (53 : Int).toNat = 53 by decide, Nat.pow_zero, Nat.mul_one, Nat.mul_assoc, ← Nat.pow_add 2 1021 53, show 1021 + 53 = 1074 by decide]
 ·rw [hfe]
  -- q 2^k = mg x 2^(-e0)
  obtain ⟨B, hB⟩ : ∃ B : Int, B = nrmE x + ((k : Int) + 1) - 1022 - 53 := ⟨_, rfl⟩
  rw [← hB]
  unfold sc
  have key : q * 2 ^ k * 2 ^ (B.toNat + 1074) = mg (rg x) * 2 ^ (-nrmE x).toNat * 2 ^ (B.toNat + 1074) := by rw [h5]
  have ex : (-nrmE x).toNat + (B.toNat + 1074) = (-B).toNat + k := by omega
  rw [Nat.mul_assoc (mg (rg x)), ← Nat.pow_add, ex, Nat.pow_add _ (-B).toNat, ← Nat.mul_assoc, Nat.mul_assoc q, Nat.mul_comm (2 ^ k), ← Nat.mul_assoc] at key
  have := Nat.eq_of_mul_eq_mul_right (two_pos k) key
  rw [Nat.pow_add, ← Nat.mul_assoc] at this
  exact this
def Tbk (sn si sz sa sf sl so sh sw : List PVal → Option PVal) : Tab := ((((((((Tab.none.with 30 (pureS sn)).with 31 (pureS si)).with 32 (pureS sz)).with 23 (pureS sa)).with 33 (pureS sf)).with 29 (pureS sl)).with 34 (pureS so)).with 35 (pureS sh)).with 36 (pureS sw)
variable {sn si sz sa sf sl so sh sw : List PVal → Option PVal}
theorem Tbk_ok (k1 : FnOk Try.prog base 30 (pureS sn)) (k2 : FnOk Try.prog base 31 (pureS si)) (k3 : FnOk Try.prog base 32 (pureS sz)) (k4 : FnOk Try.prog base 23 (pureS sa)) (k5 : FnOk Try.prog base 33 (pureS sf)) (k6 : FnOk Try.prog base 29 (pureS sl)) (k7 : FnOk Try.prog base 34 (pureS so)) (k8 : FnOk Try.prog base 35 (pureS sh)) (k9 : FnOk Try.prog base 36 (pureS sw)) : TabOk Try.prog base (Tbk sn si sz sa sf sl so sh sw) :=
 Tab.with_ok (Tab.with_ok (Tab.with_ok (Tab.with_ok (Tab.with_ok (Tab.with_ok (Tab.with_ok (Tab.with_ok (Tab.with_ok Tab.none_ok k1) k2) k3) k4) k5) k6) k7) k8) k9
theorem Tbk_mu (f : FuncId) (a : List AVal) (H : Heap) : (Tbk sn si sz sa sf sl so sh sw).mu f a H = none := (rfl)
theorem Tbk_fns : (Tbk sn si sz sa sf sl so sh sw).fn 30 = pureS sn ∧ (Tbk sn si sz sa sf sl so sh sw).fn 31 = pureS si ∧ (Tbk sn si sz sa sf sl so sh sw).fn 32 = pureS sz ∧ (Tbk sn si sz sa sf sl so sh sw).fn 23 = pureS sa ∧ (Tbk sn si sz sa sf sl so sh sw).fn 33 = pureS sf ∧ (Tbk sn si sz sa sf sl so sh sw).fn 29 = pureS sl ∧ (Tbk sn si sz sa sf sl so sh sw).fn 34 = pureS so ∧ (Tbk sn si sz sa sf sl so sh sw).fn 35 = pureS sh ∧ (Tbk sn si sz sa sf sl so sh sw).fn 36 = pureS sw := ⟨rfl, rfl, rfl, rfl, rfl, rfl, rfl, rfl, rfl⟩
theorem back_bad {b : Nat} {x : Bool} (v1 : sn [.flt .f64 b] = some (.bool x)) (v2 : x = false → si [.flt .f64 b, .int .i64 0] = some (.bool true)) :
  vc (Tbk sn si sz sa sf sl so sh sw) lf10.body (endQ (Tbk sn si sz sa sf sl so sh sw) lf10.results (.tup [.agg [.bool false, .lst [], .lst []], .bool false])) (initFr [.p (.flt .f64 b)]) [] := by
 cases x with
 | true => simp [lf10, fillA, v1, Tbk_mu, Tbk_fns]
 | false =>
  have v2 := v2 rfl
  simp [lf10, fillA, v1, v2, Tbk_mu, Tbk_fns]
theorem back_zero {b : Nat} {s : Bool} {xs ys : List PVal} (v1 : sn [.flt .f64 b] = some (.bool false)) (v2 : si [.flt .f64 b, .int .i64 0] = some (.bool false)) (v3 : binF .eql .f64 b 0 = some (.bool true)) (v4 : sz [] = some (.agg [.bool s, .lst xs, .lst ys])) :
  vc (Tbk sn si sz sa sf sl so sh sw) lf10.body (endQ (Tbk sn si sz sa sf sl so sh sw) lf10.results (.tup [.agg [.bool s, .lst xs, .lst ys], .bool true])) (initFr [.p (.flt .f64 b)]) [] := by
 simp [lf10, fillA, v1, v2, v3, v4, Tbk_mu, Tbk_fns]
theorem back_num {b x p r1 q : Nat} {e by5 : Int} {neg s : Bool} {xs ys ns ds one : List PVal} (v1 : sn [.flt .f64 b] = some (.bool false)) (v2 : si [.flt .f64 b, .int .i64 0] = some (.bool false)) (v3 : binF .eql .f64 b 0 = some (.bool false))
  (v4 : sa [.flt .f64 b] = some (.flt .f64 x)) (v5 : sf [.flt .f64 x] = some (.tup [.flt .f64 p, .int .i64 e])) (v6 : sl [.flt .f64 p, .int .i64 53] = some (.flt .f64 r1)) (v7 : (FloatKind.f64.decode r1).toInt .zero = some (q : Int)) (hq : q < 18446744073709551616)
  (v8 : so [.int .i64 1] = some (.lst one)) (w1 : IntKind.i64.wrap (e - 53) = by5) (w2 : IntKind.i64.wrap (-by5) = -by5) (v9 : binF .lss .f64 b 0 = some (.bool neg))
  (v10 : 0 ≤ by5 → sh [.lst [.int .u64 q], .int .i64 by5] = some (.lst ns) ∧ ds = one) (v11 : ¬ 0 ≤ by5 → sh [.lst one, .int .i64 (-by5)] = some (.lst ds) ∧ ns = [.int .u64 q]) (v12 : sw [.bool neg, .lst ns, .lst ds] = some (.tup [.agg [.bool s, .lst xs, .lst ys], .int .i64 0])) :
  vc (Tbk sn si sz sa sf sl so sh sw) lf10.body (endQ (Tbk sn si sz sa sf sl so sh sw) lf10.results (.tup [.agg [.bool s, .lst xs, .lst ys], .bool true])) (initFr [.p (.flt .f64 b)]) [] := by
 have c1 : (IntKind.u64.min ≤ (q : Int) ∧ (q : Int) ≤ IntKind.u64.max) := ⟨by show (0 : Int) ≤ q; omega, by show (q : Int) ≤ 18446744073709551615; omega⟩
 by_cases h : 0 ≤ by5
 ·obtain ⟨a1, rfl⟩ := v10 h
  have hT : (0 ≤ by5) = True := by simp; omega
  simp [lf10, fillA, fillS, freeze1, v1, v2, v3, v4, v5, v6, v7, v8, c1, w1, w2, v9, hT, a1, v12, Tbk_mu, Tbk_fns]
 ·obtain ⟨a1, rfl⟩ := v11 h
  have hT : (0 ≤ by5) = False := by simp; omega
  simp [lf10, fillA, fillS, freeze1, v1, v2, v3, v4, v5, v6, v7, v8, c1, w1, w2, v9, hT, a1, v12, Tbk_mu, Tbk_fns]
def Trb (sn si sz sa sf sl so sh sw : List PVal → Option PVal) : Tab := ((((((((Tab.none.with 30 (pureS sn)).with 31 (pureS si)).with 28 (pureS sz)).with 23 (pureS sa)).with 33 (pureS sf)).with 29 (pureS sl)).with 39 (pureS so)).with 38 (pureS sh)).with 37 (pureS sw)
theorem Trb_ok (k1 : FnOk Try.prog base 30 (pureS sn)) (k2 : FnOk Try.prog base 31 (pureS si)) (k3 : FnOk Try.prog base 28 (pureS sz)) (k4 : FnOk Try.prog base 23 (pureS sa)) (k5 : FnOk Try.prog base 33 (pureS sf)) (k6 : FnOk Try.prog base 29 (pureS sl)) (k7 : FnOk Try.prog base 39 (pureS so)) (k8 : FnOk Try.prog base 38 (pureS sh)) (k9 : FnOk Try.prog base 37 (pureS sw)) : TabOk Try.prog base (Trb sn si sz sa sf sl so sh sw) :=
 Tab.with_ok (Tab.with_ok (Tab.with_ok (Tab.with_ok (Tab.with_ok (Tab.with_ok (Tab.with_ok (Tab.with_ok (Tab.with_ok Tab.none_ok k1) k2) k3) k4) k5) k6) k7) k8) k9
theorem Trb_mu (f : FuncId) (a : List AVal) (H : Heap) : (Trb sn si sz sa sf sl so sh sw).mu f a H = none := (rfl)
theorem Trb_fns : (Trb sn si sz sa sf sl so sh sw).fn 30 = pureS sn ∧ (Trb sn si sz sa sf sl so sh sw).fn 31 = pureS si ∧ (Trb sn si sz sa sf sl so sh sw).fn 28 = pureS sz ∧ (Trb sn si sz sa sf sl so sh sw).fn 23 = pureS sa ∧ (Trb sn si sz sa sf sl so sh sw).fn 33 = pureS sf ∧ (Trb sn si sz sa sf sl so sh sw).fn 29 = pureS sl ∧ (Trb sn si sz sa sf sl so sh sw).fn 39 = pureS so ∧ (Trb sn si sz sa sf sl so sh sw).fn 38 = pureS sh ∧ (Trb sn si sz sa sf sl so sh sw).fn 37 = pureS sw := ⟨rfl, rfl, rfl, rfl, rfl, rfl, rfl, rfl, rfl⟩
theorem rback_bad {b : Nat} {x : Bool} (v1 : sn [.flt .f64 b] = some (.bool x)) (v2 : x = false → si [.flt .f64 b, .int .i64 0] = some (.bool true)) :
  vc (Trb sn si sz sa sf sl so sh sw) lf11.body (endQ (Trb sn si sz sa sf sl so sh sw) lf11.results (.tup [.agg [.bool false, .lst [], .lst []], .bool false])) (initFr [.p (.flt .f64 b)]) [] := by
 cases x with
 | true => simp [lf11, fillA, v1, Trb_mu, Trb_fns]
 | false =>
  have v2 := v2 rfl
  simp [lf11, fillA, v1, v2, Trb_mu, Trb_fns]
theorem rback_zero {b : Nat} {s : Bool} {xs ys : List PVal} (v1 : sn [.flt .f64 b] = some (.bool false)) (v2 : si [.flt .f64 b, .int .i64 0] = some (.bool false)) (v3 : binF .eql .f64 b 0 = some (.bool true)) (v4 : sz [.int .i64 0, .int .i64 1] = some (.agg [.bool s, .lst xs, .lst ys])) :
  vc (Trb sn si sz sa sf sl so sh sw) lf11.body (endQ (Trb sn si sz sa sf sl so sh sw) lf11.results (.tup [.agg [.bool s, .lst xs, .lst ys], .bool true])) (initFr [.p (.flt .f64 b)]) [] := by
 simp [lf11, fillA, v1, v2, v3, v4, Trb_mu, Trb_fns]
theorem rback_num {b x p r1 q : Nat} {e by5 : Int} {neg s : Bool} {xs ys ns ds one : List PVal} (v1 : sn [.flt .f64 b] = some (.bool false)) (v2 : si [.flt .f64 b, .int .i64 0] = some (.bool false)) (v3 : binF .eql .f64 b 0 = some (.bool false))
  (v4 : sa [.flt .f64 b] = some (.flt .f64 x)) (v5 : sf [.flt .f64 x] = some (.tup [.flt .f64 p, .int .i64 e])) (v6 : sl [.flt .f64 p, .int .i64 53] = some (.flt .f64 r1)) (v7 : (FloatKind.f64.decode r1).toInt .zero = some (q : Int)) (hq : q < 18446744073709551616)
  (v8 : so [] = some (.lst one)) (w1 : IntKind.i64.wrap (e - 53) = by5) (w2 : IntKind.i64.wrap (-by5) = -by5) (v9 : binF .lss .f64 b 0 = some (.bool neg))
  (v10 : 0 ≤ by5 → sh [.lst [.int .u64 q], .int .i64 by5] = some (.lst ns) ∧ ds = one) (v11 : ¬ 0 ≤ by5 → sh [.lst one, .int .i64 (-by5)] = some (.lst ds) ∧ ns = [.int .u64 q]) (v12 : sw [.bool neg, .lst ns, .lst ds] = some (.agg [.bool s, .lst xs, .lst ys])) :
  vc (Trb sn si sz sa sf sl so sh sw) lf11.body (endQ (Trb sn si sz sa sf sl so sh sw) lf11.results (.tup [.agg [.bool s, .lst xs, .lst ys], .bool true])) (initFr [.p (.flt .f64 b)]) [] := by
 have c1 : (IntKind.u64.min ≤ (q : Int) ∧ (q : Int) ≤ IntKind.u64.max) := ⟨by show (0 : Int) ≤ q; omega, by show (q : Int) ≤ 18446744073709551615; omega⟩
 by_cases h : 0 ≤ by5
 ·obtain ⟨a1, rfl⟩ := v10 h
  have hT : (0 ≤ by5) = True := by simp; omega
  simp [lf11, fillA, fillS, freeze1, v1, v2, v3, v4, v5, v6, v7, v8, c1, w1, w2, v9, hT, a1, v12, Trb_mu, Trb_fns]
 ·obtain ⟨a1, rfl⟩ := v11 h
  have hT : (0 ≤ by5) = False := by simp; omega
  simp [lf11, fillA, fillS, freeze1, v1, v2, v3, v4, v5, v6, v7, v8, c1, w1, w2, v9, hT, a1, v12, Trb_mu, Trb_fns]
theorem bad_facts {b : Nat} (hb : b < 18446744073709551616) (h : ¬ rg b < 9218868437227405312) : ∃ x, vsNaN [.flt .f64 b] = some (.bool x) ∧ (x = false → sInf2 [.flt .f64 b, .int .i64 0] = some (.bool true)) := by
 refine ⟨decide (9218868437227405312 < rg b), if_pos hb, fun hx => ?_⟩
 have hx := of_decide_eq_false hx
 simp only [sInf2]
 rw [if_pos hb]
 unfold infS
 rw [if_pos rfl, decide_eq_true (by omega)]
theorem zero_facts {b : Nat} (h : Fin64 b) : vsNaN [.flt .f64 b] = some (.bool false) ∧ sInf2 [.flt .f64 b, .int .i64 0] = some (.bool false) ∧ binF .eql .f64 b 0 = some (.bool (decide (rg b = 0))) := ⟨sNaN_fin h, sInf_fin h 0, eq_zero h.noNaN⟩
theorem num_facts {b : Nat} (h : Fin64 b) (h0 : 0 < rg b) : ∃ (r1 q : Nat) (by5 : Int), sAbs [.flt .f64 b] = some (.flt .f64 (rg b)) ∧ sFrexp [.flt .f64 (rg b)] = some (.tup [.flt .f64 (frW (rg b)), .int .i64 (frE (rg b))]) ∧ sLdexp [.flt .f64 (frW (rg b)), .int .i64 53] = some (.flt .f64 r1) ∧ (FloatKind.f64.decode r1).toInt .zero = some (q : Int) ∧ q < 18446744073709551616 ∧ q ≠ 0 ∧
  IntKind.i64.wrap (frE (rg b) - 53) = by5 ∧ IntKind.i64.wrap (-by5) = -by5 ∧ binF .lss .f64 b 0 = some (.bool (sg b)) ∧ -2000 ≤ by5 ∧ by5 ≤ 2000 ∧ q * 2 ^ by5.toNat * sc = mg (rg b) * 2 ^ (-by5).toNat := by
 have hb2 := h.2
 have eW : wd false (rg b) = rg b := by unfold wd; rw [if_neg (by decide)]
 have hx : Fin64 (rg b) := by have := fin_wd false hb2; rwa [eW] at this
 have hxr : rg (rg b) = rg b := by have := rg_wd false (r := rg b) (by omega); rwa [eW] at this
 have hxs : sg (rg b) = false := by have := sg_wd false (r := rg b) (by omega); rwa [eW] at this
 obtain ⟨q, r1, by5, g1, g2, g3, g4, g5, g6, g7, g8, g9, g10, g11, g12⟩ := frac_facts hx (by omega) hxs
 have hl := ldexp_at (e := 53) g4 (by decide) g5 g7
 have eR : wd false r1 = r1 := by unfold wd; rw [if_neg (by decide)]
 rw [g6, eR] at hl
 rw [hxr] at g12
 refine ⟨r1, q, by5, if_pos h.1, if_pos ⟨hx, by omega⟩, hl, g9, by omega, by omega, by rw [g1]; exact IntWalk.i64_in _ (by omega), IntWalk.i64_in _ (by omega), ?_, g2, g3, g12⟩
 rw [(ord_lt h.noNaN (b := 0) ⟨by decide, by decide⟩).1]
 have k0 : ky 0 = 0 := by decide
 rw [k0]
 unfold ky
 cases hs : sg b
 ·rw [if_neg (by decide), decide_eq_false (by omega)]
 ·rw [if_pos rfl, decide_eq_true (by omega)]
theorem backP_bad {b : Nat} (h : ¬ rg b < 9218868437227405312) : backP b = .tup [.agg [.bool false, .lst [], .lst []], .bool false] := by unfold backP; rw [if_neg h]; rfl
theorem backP_fin {b : Nat} (h : rg b < 9218868437227405312) : backP b = .tup [(ofQ (vlQ b)).enc, .bool true] := by unfold backP; rw [if_pos h]
theorem len_pow2 {m : Nat} (h : m ≤ 3000) : len (2 ^ m) ≤ 60 := by
 refine len_le (Nat.lt_of_lt_of_le (Nat.pow_lt_pow_right (by omega) (show m < 64 * 60 by omega)) ?_)
 rw [← pow64, ← Nat.pow_mul]
 exact Nat.le_refl _
theorem back5_ok : FnOk Try.prog base 10 (pureS sBack5) := by
 refine pure_of_vc vmix (Tbk_ok isnan_ok isinf_ok qzero_ok abs_ok frexp_ok ldexp_ok of_ok left_ok qlow_ok) globNone low10 fun args z hs hf => ?_
 unfold sBack5 at hs
 split at hs
 case h_2 => cases hs
 rename_i b
 split at hs
 case isFalse => cases hs
 rename_i hb
 cases hs
 refine ⟨by simp [lf10], ?_⟩
 by_cases h : rg b < 9218868437227405312
 ·obtain ⟨z1, z2, z3⟩ := zero_facts ⟨hb, h⟩
  rw [backP_fin h]
  by_cases h0 : rg b = 0
  ·rw [decide_eq_true h0] at z3
   rw [vlQ_zero h0]
   exact back_zero z1 z2 z3 sQZero_nil
  ·rw [decide_eq_false h0] at z3
   obtain ⟨r1, q, by5, a1, a2, a3, a4, a5, a6, a7, a8, a9, a10, a11, a12⟩ := num_facts ⟨hb, h⟩ (by omega)
   have hl1 : limbs q = [q] := limbs_small a6 (by rw [B_lit]; exact a5)
   have hlq : len q ≤ 1 := len_le (by rw [Nat.pow_one, B_lit]; exact a5)
   by_cases hp : 0 ≤ by5
   ·obtain ⟨B0, rfl⟩ : ∃ B0 : Nat, by5 = B0 := ⟨by5.toNat, by omega⟩
    have l1 := len_mul q (2 ^ B0)
    have l2 := len_pow2 (m := B0) (by omega)
    rw [Int.toNat_natCast, show (-(B0 : Int)).toNat = 0 by omega, Nat.pow_zero] at a12
    have hL := sLeft_num (a := q) (n := B0) (by omega) (by omega)
    rw [hl1] at hL
    have hw := sLow_num (sg b) (a := q * 2 ^ B0) (b := 1) (by omega) (by rw [len_one]; omega) (by decide)
    rw [vlQ_mk (by decide) a12, heldQ_ok (sm_vlQ ⟨hb, h⟩)] at hw
    exact back_num (so := sOf) z1 z2 z3 a1 a2 a3 a4 a5 sOf_one a7 a8 a9 (fun _ => ⟨hL, rfl⟩) (fun h => absurd hp h) (by rw [limbs_one] at hw; exact hw)
   ·obtain ⟨B0, hB0⟩ : ∃ B0 : Nat, -by5 = B0 := ⟨(-by5).toNat, by omega⟩
    have l2 := len_pow2 (m := B0) (by omega)
    rw [show by5.toNat = 0 by omega, hB0, Int.toNat_natCast, Nat.pow_zero, Nat.mul_one] at a12
    have hL := sLeft_num (a := 1) (n := B0) (by rw [len_one]; omega) (by omega)
    rw [Nat.one_mul, limbs_one, ← hB0] at hL
    have hw := sLow_num (sg b) (a := q) (b := 2 ^ B0) (by omega) (by omega) (by have := two_pos B0; omega)
    rw [vlQ_mk (by have := two_pos B0; omega) a12, heldQ_ok (sm_vlQ ⟨hb, h⟩), hl1] at hw
    exact back_num (so := sOf) z1 z2 z3 a1 a2 a3 a4 a5 sOf_one a7 a8 a9 (fun h => absurd h hp) (fun _ => ⟨hL, rfl⟩) hw
 ·obtain ⟨x, z1, z2⟩ := bad_facts hb h
  rw [backP_bad h]
  exact back_bad z1 z2
theorem rback_ok : FnOk Try.prog base 11 (pureS sBack5) := by
 refine pure_of_vc vmix (Trb_ok isnan_ok isinf_ok rofR_ok abs_ok frexp_ok ldexp_ok rone_ok rshift_ok rmade_ok) globNone low11 fun args z hs hf => ?_
 unfold sBack5 at hs
 split at hs
 case h_2 => cases hs
 rename_i b
 split at hs
 case isFalse => cases hs
 rename_i hb
 cases hs
 refine ⟨by simp [lf11], ?_⟩
 by_cases h : rg b < 9218868437227405312
 ·obtain ⟨z1, z2, z3⟩ := zero_facts ⟨hb, h⟩
  rw [backP_fin h]
  by_cases h0 : rg b = 0
  ·rw [decide_eq_true h0] at z3
   rw [vlQ_zero h0]
   have hz := sQOf_at (n := 0) (d := 1) (by decide) (by decide)
   rw [show Rat.divInt 0 1 = 0 by rfl] at hz
   exact rback_zero z1 z2 z3 hz
  ·rw [decide_eq_false h0] at z3
   obtain ⟨r1, q, by5, a1, a2, a3, a4, a5, a6, a7, a8, a9, a10, a11, a12⟩ := num_facts ⟨hb, h⟩ (by omega)
   have hl1 : limbs q = [q] := limbs_small a6 (by rw [B_lit]; exact a5)
   have hlq : len q ≤ 1 := len_le (by rw [Nat.pow_one, B_lit]; exact a5)
   by_cases hp : 0 ≤ by5
   ·obtain ⟨B0, rfl⟩ : ∃ B0 : Nat, by5 = B0 := ⟨by5.toNat, by omega⟩
    have l1 := len_mul q (2 ^ B0)
    have l2 := len_pow2 (m := B0) (by omega)
    rw [Int.toNat_natCast, show (-(B0 : Int)).toNat = 0 by omega, Nat.pow_zero] at a12
    have hL := sRShift_up (a := q) (n := B0) (by omega) (by omega)
    rw [hl1] at hL
    have hw := sMade_num (sg b) (a := q * 2 ^ B0) (b := 1) (by omega) (by rw [len_one]; omega) (by decide)
    rw [vlQ_mk (by decide) a12] at hw
    exact rback_num (so := sOne) z1 z2 z3 a1 a2 a3 a4 a5 sOne_nil a7 a8 a9 (fun _ => ⟨hL, rfl⟩) (fun h => absurd hp h) (by rw [limbs_one] at hw; exact hw)
   ·obtain ⟨B0, hB0⟩ : ∃ B0 : Nat, -by5 = B0 := ⟨(-by5).toNat, by omega⟩
    have l2 := len_pow2 (m := B0) (by omega)
    rw [show by5.toNat = 0 by omega, hB0, Int.toNat_natCast, Nat.pow_zero, Nat.mul_one] at a12
    have hL := sRShift_up (a := 1) (n := B0) (by rw [len_one]; omega) (by omega)
    rw [Nat.one_mul, limbs_one, ← hB0] at hL
    have hw := sMade_num (sg b) (a := q) (b := 2 ^ B0) (by omega) (by omega) (by have := two_pos B0; omega)
    rw [vlQ_mk (by have := two_pos B0; omega) a12, hl1] at hw
    exact rback_num (so := sOne) z1 z2 z3 a1 a2 a3 a4 a5 sOne_nil a7 a8 a9 (fun h => absurd h hp) (fun _ => ⟨hL, rfl⟩) hw
 ·obtain ⟨x, z1, z2⟩ := bad_facts hb h
  rw [backP_bad h]
  exact rback_bad z1 z2
end Go.Proofs.Ytbdccebpehogjaa

/-
 Sums of floats, rounded down: quick.sum and quick.Add.
-/
namespace Go.Flo
def Mid (m : Nat) (z : Int) : Prop := z.natAbs ≤ 2 ^ m
theorem rn_mid {m : Nat} {z : Int} (hm : m ≤ 2090) (h : Mid m z) : rn z.natAbs < 9218868437227405312 ∧ Mid m (R z) := by
 obtain ⟨r, hr⟩ := mg_of (m := 1) (k := m) (by decide)
 rw [Nat.one_mul] at hr
 have h1 : rn z.natAbs ≤ r := rn_le_mg (by rw [hr]; exact h)
 have h2 : r < 9218868437227405312 := by
  refine mg_lt_iff.1 ?_
  have h3 := mg_join (k := 2046) (q := 4503599627370496) (Nat.le_refl _) (by decide)
  rw [show 2046 * 4503599627370496 + 4503599627370496 = 9218868437227405312 by decide] at h3
  rw [h3, hr, ← p52, ← Nat.pow_add 2 52 2046]
  have t := Nat.pow_lt_pow_right (a := 2) (m := m) (n := 52 + 2046) (by omega) (by omega)
  exact t
 refine ⟨by omega, ?_⟩
 unfold Mid
 rw [R_abs, ← hr]
 exact mg_le h1
theorem mid_up {m : Nat} {z w : Int} (h : Mid m z) (k : Mid m w) : Mid (m + 1) (z + w) ∧ Mid (m + 1) (z - w) := by
 unfold Mid at *
 rw [Nat.pow_succ]
 omega
theorem mid_le {m n : Nat} {z : Int} (h : Mid m z) (hl : m ≤ n) : Mid n z := Nat.le_trans h (pow_mono hl)
theorem add_mid {m a b : Nat} (hm : m + 1 ≤ 2090) (ha : Fin64 a) (hb : Fin64 b) (ma : Mid m (sv a)) (mb : Mid m (sv b)) : ∃ s, Ieee.double.add a b = some s ∧ Fin64 s ∧ sv s = R (sv a + sv b) ∧ Mid (m + 1) (sv s) ∧ (sv a + sv b ≠ 0 → ky s = if sv a + sv b < 0 then -(rn (sv a + sv b).natAbs : Int) else rn (sv a + sv b).natAbs) := by
 have h1 := (mid_up ma mb).1
 obtain ⟨h2, h3⟩ := rn_mid hm h1
 obtain ⟨h4, h5⟩ := sv_R (sg a && sg b) h2
 refine ⟨_, add_fin ha hb, h4, h5, by rw [h5]; exact h3, fun h0 => ?_⟩
 unfold rw64
 rw [if_neg h0, Nat.min_eq_left (Nat.le_of_lt h2), ky_wd _ (by omega)]
 by_cases hn : sv a + sv b < 0
 ·rw [decide_eq_true hn, if_pos rfl, if_pos hn]
 ·rw [decide_eq_false hn, if_neg (by decide), if_neg hn]
theorem sub_mid {m a b : Nat} (hm : m + 1 ≤ 2090) (ha : Fin64 a) (hb : Fin64 b) (ma : Mid m (sv a)) (mb : Mid m (sv b)) : ∃ s, Ieee.double.sub a b = some s ∧ Fin64 s ∧ sv s = R (sv a - sv b) ∧ Mid (m + 1) (sv s) := by
 have h1 := (mid_up ma mb).2
 obtain ⟨h2, h3⟩ := rn_mid hm h1
 obtain ⟨h4, h5⟩ := sv_R (sg a && !sg b) h2
 exact ⟨_, sub_fin ha hb, h4, h5, by rw [h5]; exact h3⟩
theorem R_sv {a : Nat} : R (sv a) = sv a := by
 unfold R sv
 cases h : sg a
 ·simp only [Bool.false_eq_true, if_false]
  rw [if_neg (by omega), Int.natAbs_natCast, rn_mg]
 ·simp only [if_true]
  by_cases h0 : rg a = 0
  ·rw [h0, mg_zero]; decide
  ·have := mg_pos (r := rg a) (by omega)
   rw [if_pos (by omega), Int.natAbs_neg, Int.natAbs_natCast, rn_mg]
theorem round_down {T : Int} {k : Int} (hk : k = if T < 0 then -(rn T.natAbs : Int) else rn T.natAbs) :
  (¬ T - R T < 0 → vz k ≤ T ∧ T < vz (k + 1)) ∧ (T - R T < 0 → vz (k - 1) ≤ T ∧ T < vz (k - 1 + 1)) := by
 have hc := rn_cases T.natAbs
 have hl := dn_le T.natAbs
 have hu := dn_lt T.natAbs
 by_cases hn : T < 0
 ·rw [if_pos hn] at hk
  have hR : R T = -(mg (rn T.natAbs) : Int) := by unfold R; rw [if_pos hn]
  have hT : T = -(T.natAbs : Int) := by omega
  rw [hR]
  subst hk
  refine ⟨fun h => ?_, fun h => ?_⟩
  ·have h1 : T.natAbs ≤ mg (rn T.natAbs) := by omega
   rw [vz_neg, vz_nat]
   refine ⟨by omega, ?_⟩
   have hp : 0 < rn T.natAbs := by
    refine Nat.pos_of_ne_zero fun h0 => ?_
    rw [h0, mg_zero] at h1; omega
   have e : -((rn T.natAbs : Nat) : Int) + 1 = -((rn T.natAbs - 1 : Nat) : Int) := by omega
   rw [e, vz_neg, vz_nat]
   have h2 : mg (rn T.natAbs - 1) < T.natAbs := by
    rcases hc with hc | ⟨hc, h3⟩
    ·rw [hc] at h1 hp ⊢
     have := mg_lt (r := dn T.natAbs - 1) (s := dn T.natAbs) (by omega)
     omega
    ·rw [hc, Nat.add_sub_cancel]; exact h3
   omega
  ·have h1 : mg (rn T.natAbs) < T.natAbs := by omega
   have hc' : rn T.natAbs = dn T.natAbs := by
    rcases hc with hc | ⟨hc, _⟩
    ·exact hc
    ·rw [hc] at h1; omega
   have e : -((rn T.natAbs : Nat) : Int) - 1 = -((rn T.natAbs + 1 : Nat) : Int) := by omega
   have e2 : -((rn T.natAbs : Nat) : Int) - 1 + 1 = -((rn T.natAbs : Nat) : Int) := by omega
   rw [e2, e, vz_neg, vz_nat, vz_neg, vz_nat]
   rw [hc'] at h1 ⊢
   omega
 ·rw [if_neg hn] at hk
  have hR : R T = (mg (rn T.natAbs) : Int) := by unfold R; rw [if_neg hn]
  rw [hR]
  subst hk
  refine ⟨fun h => ?_, fun h => ?_⟩
  ·have h1 : mg (rn T.natAbs) ≤ T.natAbs := by omega
   have hc' : rn T.natAbs = dn T.natAbs := by
    rcases hc with hc | ⟨hc, _⟩
    ·exact hc
    ·rw [hc] at h1; omega
   have e : ((rn T.natAbs : Nat) : Int) + 1 = ((rn T.natAbs + 1 : Nat) : Int) := by omega
   rw [e, vz_nat, vz_nat]
   rw [hc'] at h1 ⊢
   omega
  ·have h1 : T.natAbs < mg (rn T.natAbs) := by omega
   have hc' : rn T.natAbs = dn T.natAbs + 1 := by
    rcases hc with hc | ⟨hc, _⟩
    ·rw [hc] at h1; omega
    ·exact hc
   have e : ((rn T.natAbs : Nat) : Int) - 1 = ((dn T.natAbs : Nat) : Int) := by omega
   have e2 : ((rn T.natAbs : Nat) : Int) - 1 + 1 = ((dn T.natAbs + 1 : Nat) : Int) := by omega
   rw [e2, e, vz_nat, vz_nat]
   omega
theorem add_zero {s : Nat} (h : Fin64 s) : Ieee.double.add s 0 = some (wk (ky s)) := by
 have h0 : Fin64 0 := ⟨by decide, by decide⟩
 rw [add_fin h h0, show sv 0 = 0 by decide, show sg 0 = false by decide, Bool.and_false, Int.add_zero]
 congr 1
 have h2 := h.2
 unfold rw64
 by_cases hz : rg s = 0
 ·have e1 : sv s = 0 := by unfold sv; rw [hz, mg_zero]; cases sg s <;> rfl
  have e2 : ky s = 0 := by unfold ky; rw [hz]; cases sg s <;> rfl
  rw [if_pos e1, e2]; decide
 ·have hp := mg_pos (r := rg s) (by omega)
  have e3 : (sv s).natAbs = mg (rg s) := by unfold sv; split <;> omega
  rw [if_neg (by omega), e3, rn_mg, Nat.min_eq_left (by omega)]
  unfold wk
  have e4 : (ky s).natAbs = rg s := by unfold ky; split <;> omega
  have e5 : decide (sv s < 0) = decide (ky s < 0) := by
   refine decide_eq_decide.2 ?_
   unfold sv ky
   split <;> omega
  rw [e4, e5]
theorem mk_cross (T : Int) : (mkRat T sc).num * sc = T * (mkRat T sc).den := by
 have hs : sc ≠ 0 := by have := sc_pos; omega
 have h1 : mkRat (mkRat T sc).num (mkRat T sc).den = mkRat T sc := Rat.mkRat_self _
 exact (Rat.mkRat_eq_iff (Rat.den_nz _) hs).1 h1
def sumK (T : Int) : Int := kLo (mkRat T sc)
theorem sumK_is {T k : Int} (h1 : vz k ≤ T) (h2 : T < vz (k + 1)) (hk : -9218868437227405312 < k ∧ k < 9218868437227405311) : sumK T = k := by
 have hd : (0 : Int) < (mkRat T sc).den := by have := (mkRat T sc).den_pos; omega
 refine kLo_is ?_ ?_ hk
 ·rw [mk_cross]; exact Int.mul_le_mul_of_nonneg_right h1 (Int.le_of_lt hd)
 ·rw [mk_cross]; exact Int.mul_lt_mul_of_pos_right h2 hd
end Go.Flo
namespace Go.Proofs.Ytbdccebpehogjaa
open Go Go.Abs Go.Flo Go.Limbs
variable {base : Prot}
set_option maxRecDepth 20000
attribute [local irreducible] vc
attribute [local simp] pureS touchV freezeL fuel shiftV u64 au
def Tvs (si sn sw sx : List PVal → Option PVal) : Tab := (((Tab.none.with 31 (pureS si)).with 30 (pureS sn)).with 19 (pureS sw)).with 18 (pureS sx)
variable {si sn sw sx : List PVal → Option PVal}
theorem Tvs_ok (k1 : FnOk Try.prog base 31 (pureS si)) (k2 : FnOk Try.prog base 30 (pureS sn)) (k3 : FnOk Try.prog base 19 (pureS sw)) (k4 : FnOk Try.prog base 18 (pureS sx)) : TabOk Try.prog base (Tvs si sn sw sx) := Tab.with_ok (Tab.with_ok (Tab.with_ok (Tab.with_ok Tab.none_ok k1) k2) k3) k4
theorem Tvs_mu (f : FuncId) (a : List AVal) (H : Heap) : (Tvs si sn sw sx).mu f a H = none := (rfl)
theorem Tvs_fns : (Tvs si sn sw sx).fn 31 = pureS si ∧ (Tvs si sn sw sx).fn 30 = pureS sn ∧ (Tvs si sn sw sx).fn 19 = pureS sw ∧ (Tvs si sn sw sx).fn 18 = pureS sx := ⟨rfl, rfl, rfl, rfl⟩
theorem sum_walk {x y s part c d e err s2 W : Nat} {neg : Bool} {I : Nat}
  (v1 : binF .add .f64 x y = some (.flt .f64 s)) (v2 : si [.flt .f64 x, .int .i64 0] = some (.bool false)) (v3 : si [.flt .f64 y, .int .i64 0] = some (.bool false)) (v4 : sn [.flt .f64 s] = some (.bool false)) (v5 : si [.flt .f64 s, .int .i64 1] = some (.bool false)) (v6 : si [.flt .f64 s, .int .i64 (-1)] = some (.bool false))
  (v7 : binF .sub .f64 s x = some (.flt .f64 part)) (v8 : binF .sub .f64 s part = some (.flt .f64 c)) (v9 : binF .sub .f64 x c = some (.flt .f64 d)) (v10 : binF .sub .f64 y part = some (.flt .f64 e)) (v11 : binF .add .f64 d e = some (.flt .f64 err)) (v12 : binF .lss .f64 err 0 = some (.bool neg))
  (v13 : sw [.int .i64 (-1)] = some (.flt .f64 I)) (v14 : sx [.flt .f64 s, .flt .f64 I] = some (.flt .f64 s2)) (v15 : binF .add .f64 (if neg = true then s2 else s) 0 = some (.flt .f64 W)) :
  vc (Tvs si sn sw sx) lf53.body (endQ (Tvs si sn sw sx) lf53.results (.flt .f64 W)) (initFr [.p (.flt .f64 x), .p (.flt .f64 y)]) [] := by
 cases neg with
 | true =>
  rw [if_pos rfl] at v15
  simp [lf53, v1, v2, v3, v4, v5, v6, v7, v8, v9, v10, v11, v12, v13, v14, v15, Tvs_mu, Tvs_fns]
 | false =>
  rw [if_neg (by decide)] at v15
  simp [lf53, v1, v2, v3, v4, v5, v6, v7, v8, v9, v10, v11, v12, v13, v14, v15, Tvs_mu, Tvs_fns]
def MidW (b : Nat) : Prop := Fin64 b ∧ rg b < 9137803643934736384
instance (b : Nat) : Decidable (MidW b) := inferInstanceAs (Decidable ((_ ∧ _) ∧ _))
theorem mid_of {b : Nat} (h : MidW b) : Mid 2080 (sv b) := by
 have h1 := mg_lt h.2
 have h3 := mg_join (k := 2028) (q := 4503599627370496) (Nat.le_refl _) (by decide)
 rw [show 2028 * 4503599627370496 + 4503599627370496 = 9137803643934736384 by decide, ← p52, ← Nat.pow_add 2 52 2028, show 52 + 2028 = 2080 by decide] at h3
 rw [h3] at h1
 unfold Mid
 have e : (sv b).natAbs = mg (rg b) := by unfold sv; split <;> omega
 rw [e]
 exact Nat.le_of_lt h1
def sSum : List PVal → Option PVal
 | [.flt .f64 x, .flt .f64 y] => if MidW x ∧ MidW y then some (.flt .f64 (wk (sumK (sv x + sv y)))) else none
 | _ => none
theorem f_add {a b s : Nat} (h : Ieee.double.add a b = some s) : binF .add .f64 a b = some (.flt .f64 s) := by simp only [binF, fmt64, h, Option.map_some]
theorem f_sub {a b s : Nat} (h : Ieee.double.sub a b = some s) : binF .sub .f64 a b = some (.flt .f64 s) := by simp only [binF, fmt64, h, Option.map_some]
theorem f_neg {b : Nat} (h : Fin64 b) : binF .lss .f64 b 0 = some (.bool (decide (sv b < 0))) := by
 rw [(ord_lt h.noNaN (b := 0) ⟨by decide, by decide⟩).1, show ky 0 = 0 by decide]
 have := @sv_lt b 0
 rw [show sv 0 = 0 by decide, show ky 0 = 0 by decide] at this
 rw [decide_eq_decide.2 this]
theorem sum_ok : FnOk Try.prog base 53 (pureS sSum) := by
 refine pure_of_vc vmix (Tvs_ok isinf_ok isnan_ok infw_ok next_ok) globNone low53 fun args z hs hf => ?_
 unfold sSum at hs
 split at hs
 case h_2 => cases hs
 rename_i x y
 split at hs
 case isFalse => cases hs
 rename_i hxy
 obtain ⟨hx, hy⟩ := hxy
 cases hs
 refine ⟨by simp [lf53], ?_⟩
 have mx := mid_of hx
 have my := mid_of hy
 obtain ⟨s, a1, a2, a3, a4, a5⟩ := add_mid (by decide) hx.1 hy.1 mx my
 obtain ⟨part, b1, b2, b3, b4⟩ := sub_mid (m := 2081) (by decide) a2 hx.1 a4 (mid_le mx (by decide))
 obtain ⟨c, c1, c2, c3, c4⟩ := sub_mid (m := 2082) (by decide) a2 b2 (mid_le a4 (by decide)) b4
 obtain ⟨d, d1, d2, d3, d4⟩ := sub_mid (m := 2083) (by decide) hx.1 c2 (mid_le mx (by decide)) c4
 obtain ⟨e, e1, e2, e3, e4⟩ := sub_mid (m := 2082) (by decide) hy.1 b2 (mid_le my (by decide)) b4
 obtain ⟨err, g1, g2, g3, g4, -⟩ := add_mid (m := 2084) (by decide) d2 e2 d4 (mid_le e4 (by decide))
 have key := two_sum (pl_of (@R_sv x)) (pl_of (@R_sv y)) a3 b3 c3 d3 e3
 rw [← g3] at key
 have hT : (sv x + sv y).natAbs ≤ 2 ^ (2080 + 1) := (mid_up mx my).1
 rw [show 2080 + 1 = 2081 by decide] at hT
 have hbound : ∀ k : Int, (vz k).natAbs ≤ 2 ^ 2082 → k.natAbs ≤ 9191846839463182336 := fun k hk => by
  have h3 := mg_join (k := 2040) (q := 4503599627370496) (Nat.le_refl _) (by decide)
  rw [show 2040 * 4503599627370496 + 4503599627370496 = 9191846839463182336 by decide, ← p52, ← Nat.pow_add 2 52 2040] at h3
  have h4 : mg k.natAbs ≤ 2 ^ 2082 := by
   unfold vz at hk
   split at hk <;> omega
  exact mg_le_iff.1 (Nat.le_trans h4 (by rw [h3]; have t := pow_mono (p := 2082) (q := 52 + 2040) (by decide); exact t) : mg k.natAbs ≤ mg 9191846839463182336)
 -- the sum as a rung
 obtain ⟨K, hK⟩ : ∃ K, K = if sv x + sv y < 0 then -(rn (sv x + sv y).natAbs : Int) else rn (sv x + sv y).natAbs := ⟨_, rfl⟩
 have hky : ky s = K := by
  by_cases h0 : sv x + sv y = 0
  ·rw [h0, R_zero] at a3
   rw [hK, h0, if_neg (by decide)]
   have : rg s = 0 := by
    refine Decidable.byContradiction fun h => ?_
    have hp := mg_pos (r := rg s) (by omega)
    unfold sv at a3
    split at a3 <;> omega
   rw [ky_zero.2 this]; rfl
  ·rw [a5 h0, hK]
 obtain ⟨r1, r2⟩ := round_down hK
 have hsn : sNext [.flt .f64 s, .flt .f64 (wd true 9218868437227405312)] = some (.flt .f64 (nxtW s (wd true 9218868437227405312))) := if_pos ⟨a2, ⟨by decide, by decide⟩⟩
 obtain ⟨n1, n2, n3⟩ := next_down a2
 have hlt : (sv err < 0) ↔ (sv x + sv y - R (sv x + sv y) < 0) := by rw [key, a3]
 have fin : ∀ s2 : Nat, Fin64 s2 → ky s2 = sumK (sv x + sv y) → binF .add .f64 s2 0 = some (.flt .f64 (wk (sumK (sv x + sv y)))) := fun s2 h1 h2 => f_add (by rw [add_zero h1, h2])
 refine sum_walk (I := wd true 9218868437227405312) (s2 := nxtW s (wd true 9218868437227405312)) (neg := decide (sv err < 0)) (f_add a1) (sInf_fin hx.1 0) (sInf_fin hy.1 0) (sNaN_fin a2) (sInf_fin a2 1) (sInf_fin a2 (-1)) (f_sub b1) (f_sub c1) (f_sub d1) (f_sub e1) (f_add g1) (f_neg g2) rfl hsn ?_
 have hKb := hbound K (by
  have h6 : vz K = sv s := by rw [← hky, vz_ky]
  have h7 : (sv s).natAbs ≤ 2 ^ (2080 + 1) := a4
  rw [show 2080 + 1 = 2081 by decide] at h7
  have h8 := pow_mono (show 2081 ≤ 2082 by decide)
  rw [h6]; omega)
 by_cases hneg : sv err < 0
 ·rw [decide_eq_true hneg, if_pos rfl]
  obtain ⟨q1, q2⟩ := r2 (hlt.1 hneg)
  refine fin _ ⟨n1, ?_⟩ ?_
  ·have h9 : (ky (nxtW s (wd true 9218868437227405312))).natAbs = rg (nxtW s (wd true 9218868437227405312)) := by unfold ky; split <;> omega
   rw [n3, hky] at h9
   omega
  ·rw [n3, hky]
   exact (sumK_is q1 q2 (by omega)).symm
 ·rw [decide_eq_false hneg, if_neg (by decide)]
  obtain ⟨q1, q2⟩ := r1 (fun h => hneg (hlt.2 h))
  refine fin _ a2 ?_
  rw [hky]
  exact (sumK_is q1 q2 (by omega)).symm
end Go.Proofs.Ytbdccebpehogjaa
