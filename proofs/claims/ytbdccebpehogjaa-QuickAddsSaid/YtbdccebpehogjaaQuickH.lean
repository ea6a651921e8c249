/-
  QuickHolds answers true on all values. AcvNo conditions beyond the lemmas' own hypotheses.
-/
import Derived.Test.YtbdccebpehogjaaQuickG
set_option linter.unusedSimpArgs false
set_option linter.unnecessarySimpa false
set_option linter.unusedVariables false
set_option linter.constructorNameAsVariable false

/-
 QuickHolds and QuickAdds answer true on all values.
-/
namespace Go.Proofs.Ytbdccebpehogjaa
open Go Go.Abs Go.Flo Go.Limbs
variable {base : Prot}
set_option maxRecDepth 20000
attribute [local irreducible] vc
attribute [local simp] pureS touchV freezeL fuel shiftV u64 au
variable {S : Nat → List PVal → Option PVal}
structure Side5 (S : Nat → List PVal → Option PVal) (x : PVal) (w : Nat) (dir : Int) (up : Bool) (s1 : Bool) (x1 y1 : List PVal) (I nx : Nat) (s2 : Bool) (x2 y2 : List PVal) (o2 : Bool) (c1 c2 : Int) : Prop where
 bk : S 2 [.flt .f64 w] = some (.tup [.agg [.bool s1, .lst x1, .lst y1], .bool true])
 inf : S 10 [.int .i64 dir] = some (.flt .f64 I)
 nxt : S 9 [.flt .f64 w, .flt .f64 I] = some (.flt .f64 nx)
 bk2 : S 2 [.flt .f64 nx] = some (.tup [.agg [.bool s2, .lst x2, .lst y2], .bool o2])
 cm : S 11 [.agg [.bool s1, .lst x1, .lst y1], x] = some (.int .i64 c1)
 cm2 : o2 = true → S 11 [.agg [.bool s2, .lst x2, .lst y2], x] = some (.int .i64 c2)
 low : up = false → (0 < c1) = False ∧ (o2 = true → (c2 ≤ 0) = False)
 upp : up = true → (c1 < 0) = False ∧ (o2 = true → (0 ≤ c2) = False)
set_option maxHeartbeats 4000000 in
theorem holds_walk {s ok fl fh e el s1 s2 s3 s4 o2 o4 : Bool} {xs ys x1 y1 x2 y2 x3 y3 x4 y4 : List PVal} {lo hi I1 I2 nx ny : Nat} {c1 c2 c3 c4 : Int} (v0 : S 0 [] = some (.bool true)) (v1 : S 7 [.agg [.bool s, .lst xs, .lst ys]] = some (.bool ok))
  (v2 : S 3 [.agg [.bool s, .lst xs, .lst ys]] = some (.cpx .f64 lo hi)) (v3 : S 8 [.flt .f64 lo] = some (.bool fl)) (v4 : S 8 [.flt .f64 hi] = some (.bool fh))
  (vl : ok = true → fl = true → Side5 S (.agg [.bool s, .lst xs, .lst ys]) lo 1 false s1 x1 y1 I1 nx s2 x2 y2 o2 c1 c2) (vh : ok = true → fh = true → Side5 S (.agg [.bool s, .lst xs, .lst ys]) hi (-1) true s3 x3 y3 I2 ny s4 x4 y4 o4 c3 c4)
  (v5 : ok = true → binF .leq .f64 lo hi = some (.bool true)) (v6 : ok = true → fl = false → binF .lss .f64 lo 0 = some (.bool true)) (v7 : ok = true → fh = false → binF .gtr .f64 hi 0 = some (.bool true)) (v8 : S 12 [.cpx .f64 lo hi] = some (.bool e)) (v9 : binF .eql .f64 lo hi = some (.bool el)) (v10 : e = (el && fl)) :
  vc (Tq5 S) lf4.body (endQ (Tq5 S) lf4.results (.bool true)) (initFr [.p (.agg [.bool s, .lst xs, .lst ys])]) [] := by
 by_cases h1 : 12 < xs.length
 ·have h1 := lenT h1
  simp only [show ((12 : Nat) : Int) = 12 from rfl] at h1
  simp [lf4, fillA, h1, v0, Tq5_mu, Tq5_a, Tq5_b]
 have h1 := lenF h1
 by_cases h2 : 12 < ys.length
 ·have h2 := lenT h2
  simp only [show ((12 : Nat) : Int) = 12 from rfl] at h1 h2
  simp [lf4, fillA, h1, h2, v0, Tq5_mu, Tq5_a, Tq5_b]
 have h2 := lenF h2
 simp only [show ((12 : Nat) : Int) = 12 from rfl] at h1 h2
 cases ok with
 | false => simp [lf4, fillA, h1, h2, v0, v1, Tq5_mu, Tq5_a, Tq5_b]
 | true =>
  have v5 := v5 rfl
  subst v10
  cases fl with
  | false =>
   have v6 := v6 rfl rfl
   cases fh with
   | false =>
    have v7 := v7 rfl rfl
    cases el <;> simp [lf4, fillA, h1, h2, v0, v1, v2, v3, v4, v5, v6, v7, v8, v9, Tq5_mu, Tq5_a, Tq5_b]
   | true =>
    obtain ⟨b1, b2, b3, b4, b5, b6, -, b7⟩ := vh rfl rfl
    obtain ⟨b7, b8⟩ := b7 rfl
    cases o4 with
    | false => cases el <;> simp [lf4, fillA, h1, h2, v0, v1, v2, v3, v4, v5, v6, v8, v9, b1, b2, b3, b4, b5, b7, Tq5_mu, Tq5_a, Tq5_b]
    | true =>
     have b6 := b6 rfl
     have b8 := b8 rfl
     cases el <;> simp [lf4, fillA, h1, h2, v0, v1, v2, v3, v4, v5, v6, v8, v9, b1, b2, b3, b4, b5, b6, b7, b8, Tq5_mu, Tq5_a, Tq5_b]
  | true =>
   obtain ⟨a1, a2, a3, a4, a5, a6, a7, -⟩ := vl rfl rfl
   obtain ⟨a7, a8⟩ := a7 rfl
   cases fh with
   | false =>
    have v7 := v7 rfl rfl
    cases o2 with
    | false => cases el <;> simp [lf4, fillA, h1, h2, v0, v1, v2, v3, v4, v5, v7, v8, v9, a1, a2, a3, a4, a5, a7, Tq5_mu, Tq5_a, Tq5_b]
    | true =>
     have a6 := a6 rfl
     have a8 := a8 rfl
     cases el <;> simp [lf4, fillA, h1, h2, v0, v1, v2, v3, v4, v5, v7, v8, v9, a1, a2, a3, a4, a5, a6, a7, a8, Tq5_mu, Tq5_a, Tq5_b]
   | true =>
    obtain ⟨b1, b2, b3, b4, b5, b6, -, b7⟩ := vh rfl rfl
    obtain ⟨b7, b8⟩ := b7 rfl
    cases o2 with
    | false =>
     cases o4 with
     | false => cases el <;> simp [lf4, fillA, h1, h2, v0, v1, v2, v3, v4, v5, v8, v9, a1, a2, a3, a4, a5, a7, b1, b2, b3, b4, b5, b7, Tq5_mu, Tq5_a, Tq5_b]
     | true =>
      have b6 := b6 rfl
      have b8 := b8 rfl
      cases el <;> simp [lf4, fillA, h1, h2, v0, v1, v2, v3, v4, v5, v8, v9, a1, a2, a3, a4, a5, a7, b1, b2, b3, b4, b5, b6, b7, b8, Tq5_mu, Tq5_a, Tq5_b]
    | true =>
     have a6 := a6 rfl
     have a8 := a8 rfl
     cases o4 with
     | false => cases el <;> simp [lf4, fillA, h1, h2, v0, v1, v2, v3, v4, v5, v8, v9, a1, a2, a3, a4, a5, a6, a7, a8, b1, b2, b3, b4, b5, b7, Tq5_mu, Tq5_a, Tq5_b]
     | true =>
      have b6 := b6 rfl
      have b8 := b8 rfl
      cases el <;> simp [lf4, fillA, h1, h2, v0, v1, v2, v3, v4, v5, v8, v9, a1, a2, a3, a4, a5, a6, a7, a8, b1, b2, b3, b4, b5, b6, b7, b8, Tq5_mu, Tq5_a, Tq5_b]
theorem cross_s {p q : Rat} {w : Int} (h1 : p.num * sc < w * p.den) (h2 : w * q.den ≤ q.num * sc) : p.num * q.den < q.num * p.den := by
 have hp : (0 : Int) < p.den := by have := p.den_pos; omega
 have hq : (0 : Int) < q.den := by have := q.den_pos; omega
 have hs : (0 : Int) < sc := by have := sc_pos; omega
 have a := Int.mul_lt_mul_of_pos_right h1 hq
 have b := Int.mul_le_mul_of_nonneg_right h2 (Int.le_of_lt hp)
 have e1 : p.num * sc * q.den = p.num * q.den * sc := by rw [Int.mul_assoc, Int.mul_comm (sc : Int), ← Int.mul_assoc]
 have e2 : w * p.den * q.den = w * q.den * p.den := by rw [Int.mul_assoc, Int.mul_comm (p.den : Int), ← Int.mul_assoc]
 have e3 : q.num * sc * p.den = q.num * p.den * sc := by rw [Int.mul_assoc, Int.mul_comm (sc : Int), ← Int.mul_assoc]
 rw [e1, e2] at a
 rw [e3] at b
 exact Int.lt_of_mul_lt_mul_right (Int.lt_of_lt_of_le a b) (Int.le_of_lt hs)
theorem cross_t {p q : Rat} {w : Int} (h1 : q.num * sc ≤ w * q.den) (h2 : w * p.den < p.num * sc) : q.num * p.den < p.num * q.den := by
 have := cross_s (p := -p) (q := -q) (w := -w) (by
  show -p.num * sc < -w * p.den
  rw [Int.neg_mul, Int.neg_mul]; omega) (by
  show -w * q.den ≤ -q.num * sc
  rw [Int.neg_mul, Int.neg_mul]; omega)
 have e1 : -p.num * q.den < -q.num * p.den := this
 rw [Int.neg_mul, Int.neg_mul] at e1
 omega
theorem cmp_pos {p q : Rat} (h : q.num * p.den < p.num * q.den) : (cmpQ p q ≤ 0) = False := by
 have : ¬ cmpQ p q ≤ 0 := fun hc => by have := cmp_le hc; omega
 simpa using this
theorem cmp_npos {p q : Rat} (h : p.num * q.den ≤ q.num * p.den) : (0 < cmpQ p q) = False := by
 have : ¬ 0 < cmpQ p q := fun hc => by
  rw [cmpQ_pos_iff, Rat.lt_iff] at hc
  omega
 simpa using this
theorem cmp_neg {p q : Rat} (h : p.num * q.den < q.num * p.den) : (0 ≤ cmpQ p q) = False := by
 have := cmp_cross.2 h
 have h2 : ¬ 0 ≤ cmpQ p q := by omega
 simpa using h2
theorem cmp_nneg {p q : Rat} (h : q.num * p.den ≤ p.num * q.den) : (cmpQ p q < 0) = False := by
 have h2 : ¬ cmpQ p q < 0 := fun hc => by have := cmp_cross.1 hc; omega
 simpa using h2
theorem bk_any {n : Nat} (h : n < 18446744073709551616) : ∃ (s : Bool) (x y : List PVal) (o : Bool), sBack5 [.flt .f64 n] = some (.tup [.agg [.bool s, .lst x, .lst y], .bool o]) ∧ (o = true → rg n < 9218868437227405312 ∧ (.agg [.bool s, .lst x, .lst y] : PVal) = (ofQ (vlQ n)).enc) := by
 have v1 : sBack5 [.flt .f64 n] = some (backP n) := if_pos h
 by_cases hr : rg n < 9218868437227405312
 ·rw [backP_fin hr, enc_ofQ] at v1
  exact ⟨_, _, _, _, v1, fun _ => ⟨hr, (enc_ofQ (vlQ n)).symm⟩⟩
 ·rw [backP_bad hr] at v1
  exact ⟨_, _, _, _, v1, fun h => by cases h⟩
theorem vl_cross {n : Nat} {k : Int} (h : ky n = k) : (vlQ n).num * sc = vz k * (vlQ n).den := by
 have := mk_cross (sv n)
 rw [← h, vz_ky]
 exact this
theorem holds5_ok : FnOk Try.prog base 4 (pureS (f1 fun _ => .bool true)) := by
 refine pure_of_vc vmix (Tq5_ok (S5_ok aw5_ok)) globNone low4 fun args z hs hf => ?_
 obtain ⟨x, wx, rfl, rfl⟩ := f1_some hs
 refine ⟨by simp [lf4], ?_⟩
 obtain ⟨a, b, ea, na, nb⟩ := bound_words x
 have v1 : f1 boolF [x.enc] = some (.bool x.ok) := vF wx
 have v3 : f1 boundF [x.enc] = some (.cpx .f64 a b) := by rw [f1_at wx, ea]
 have g1 : sFin [.flt .f64 a] = some (.bool (decide (rg a < 9218868437227405312))) := if_pos na.1
 have g2 : sFin [.flt .f64 b] = some (.bool (decide (rg b < 9218868437227405312))) := if_pos nb.1
 have g3 : sExact [.cpx .f64 a b] = some (.bool (decide (ky a = ky b) && !infS a 0)) := if_pos ⟨na, nb⟩
 have g4 := (ord_lt na nb).2.2.2.2.1
 have g5 : (!infS a 0) = decide (rg a < 9218868437227405312) := by
  have := na.2
  unfold infS
  rw [if_pos rfl]
  by_cases h : rg a = 9218868437227405312
  ·rw [decide_eq_true h, decide_eq_false (by omega)]; rfl
  ·rw [decide_eq_false h, decide_eq_true (by omega)]; rfl
 -- the words next to the two bounds
 have up : Fin64 a → ∃ nx, sNext [.flt .f64 a, .flt .f64 9218868437227405312] = some (.flt .f64 nx) ∧ nx < 18446744073709551616 ∧ ky nx = ky a + 1 := fun h => by
  obtain ⟨n1, n2, n3⟩ := next_up h
  rw [show wd false 9218868437227405312 = 9218868437227405312 by decide] at n1 n3
  exact ⟨_, if_pos ⟨h, ⟨by decide, by decide⟩⟩, n1, n3⟩
 have dn : Fin64 b → ∃ nx, sNext [.flt .f64 b, .flt .f64 (wd true 9218868437227405312)] = some (.flt .f64 nx) ∧ nx < 18446744073709551616 ∧ ky nx = ky b - 1 := fun h => by
  obtain ⟨n1, n2, n3⟩ := next_down h
  exact ⟨_, if_pos ⟨h, ⟨by decide, by decide⟩⟩, n1, n3⟩
 obtain ⟨nx, hnx⟩ : ∃ nx, Fin64 a → sNext [.flt .f64 a, .flt .f64 9218868437227405312] = some (.flt .f64 nx) ∧ nx < 18446744073709551616 ∧ ky nx = ky a + 1 := by
  by_cases h : Fin64 a
  ·obtain ⟨nx, h1⟩ := up h; exact ⟨nx, fun _ => h1⟩
  ·exact ⟨0, fun h2 => absurd h2 h⟩
 obtain ⟨ny, hny⟩ : ∃ nx, Fin64 b → sNext [.flt .f64 b, .flt .f64 (wd true 9218868437227405312)] = some (.flt .f64 nx) ∧ nx < 18446744073709551616 ∧ ky nx = ky b - 1 := by
  by_cases h : Fin64 b
  ·obtain ⟨nx, h1⟩ := dn h; exact ⟨nx, fun _ => h1⟩
  ·exact ⟨0, fun h2 => absurd h2 h⟩
 have bka : ∀ n : Nat, ∃ (s : Bool) (x y : List PVal) (o : Bool), (n < 18446744073709551616 → sBack5 [.flt .f64 n] = some (.tup [.agg [.bool s, .lst x, .lst y], .bool o])) ∧ (n < 18446744073709551616 → o = true → rg n < 9218868437227405312 ∧ (.agg [.bool s, .lst x, .lst y] : PVal) = (ofQ (vlQ n)).enc) := fun n => by
  by_cases h : n < 18446744073709551616
  ·obtain ⟨s, x, y, o, h1, h2⟩ := bk_any h
   exact ⟨s, x, y, o, fun _ => h1, fun _ => h2⟩
  ·exact ⟨false, [], [], false, fun h2 => absurd h2 h, fun h2 => absurd h2 h⟩
 obtain ⟨s2, x2, y2, o2, k1, k2⟩ := bka nx
 obtain ⟨s4, x4, y4, o4, k3, k4⟩ := bka ny
 simp only [Fr.enc] at v1 v3 ⊢
 refine holds_walk (S := S5 sAw5) (I1 := 9218868437227405312) (I2 := wd true 9218868437227405312) (s1 := decide ((vlQ a).num < 0)) (x1 := (limbs (vlQ a).num.natAbs).map u64) (y1 := (limbs (vlQ a).den).map u64) (s3 := decide ((vlQ b).num < 0)) (x3 := (limbs (vlQ b).num.natAbs).map u64) (y3 := (limbs (vlQ b).den).map u64) (nx := nx) (ny := ny) (s2 := s2) (x2 := x2) (y2 := y2) (o2 := o2) (s4 := s4) (x4 := x4) (y4 := y4) (o4 := o4)
  (c1 := cmpQ (vlQ a) x.q) (c2 := cmpQ (vlQ nx) x.q) (c3 := cmpQ (vlQ b) x.q) (c4 := cmpQ (vlQ ny) x.q) rfl v1 v3 g1 g2 (fun ho hfl => ?_) (fun ho hfh => ?_) (fun ho => ?_) (fun ho hfl => ?_) (fun ho hfh => ?_) g3 g4 (by rw [g5])
 ·obtain ⟨p, hp, rfl⟩ := Fr.ok_of ho
  rw [boundF_num hp] at ea
  cases ea
  have hb := k_bd p
  have hfl := of_decide_eq_true hfl
  have hfin : Fin64 (wk (kLo p)) := ⟨na.1, hfl⟩
  have hk := ky_wk (k := kLo p) (by omega)
  have hkf := ky_fin hfin
  rw [hk] at hkf
  obtain ⟨j1, j2, j3⟩ := hnx hfin
  rw [q_ofQ]
  have z1 : sBack5 [.flt .f64 (wk (kLo p))] = some (.tup [(ofQ (vlQ (wk (kLo p)))).enc, .bool true]) := by
   have : sBack5 [.flt .f64 (wk (kLo p))] = some (backP (wk (kLo p))) := if_pos na.1
   rw [this, backP_fin hfl]
  rw [enc_ofQ] at z1
  have z2 : f2 cmpP [(ofQ (vlQ (wk (kLo p)))).enc, (ofQ p).enc] = some (.int .i64 (cmpF (ofQ (vlQ (wk (kLo p)))) (ofQ p))) := f2_at (wf_ofQ _) (wf_ofQ _)
  rw [cmpF_num (sm_vlQ hfin) hp, enc_ofQ] at z2
  refine ⟨z1, rfl, j1, k1 j2, z2, fun ho2 => ?_, fun _ => ⟨?_, fun ho2 => ?_⟩, fun h => by cases h⟩
  ·obtain ⟨m1, m2⟩ := k2 j2 ho2
   rw [m2]
   have z3 : f2 cmpP [(ofQ (vlQ nx)).enc, (ofQ p).enc] = some (.int .i64 (cmpF (ofQ (vlQ nx)) (ofQ p))) := f2_at (wf_ofQ _) (wf_ofQ _)
   rw [cmpF_num (sm_vlQ ⟨j2, m1⟩) hp] at z3
   exact z3
  ·exact cmp_npos (cross (v := vz (kLo p)) (Int.le_of_eq (vl_cross hk)) (lo_le (by omega)))
  ·obtain ⟨m1, m2⟩ := k2 j2 ho2
   have hkn := ky_fin (x := nx) ⟨j2, m1⟩
   rw [j3, hk] at hkn
   have h6 := lo_lt (q := p) (by omega)
   exact cmp_pos (cross_s h6 (Int.le_of_eq (vl_cross (by rw [j3, hk])).symm))
 ·obtain ⟨p, hp, rfl⟩ := Fr.ok_of ho
  rw [boundF_num hp] at ea
  cases ea
  have hb := k_bd p
  have hfh := of_decide_eq_true hfh
  have hfin : Fin64 (wk (kHi p)) := ⟨nb.1, hfh⟩
  have hk := ky_wk (k := kHi p) (by omega)
  have hkf := ky_fin hfin
  rw [hk] at hkf
  obtain ⟨j1, j2, j3⟩ := hny hfin
  rw [q_ofQ]
  have z1 : sBack5 [.flt .f64 (wk (kHi p))] = some (.tup [(ofQ (vlQ (wk (kHi p)))).enc, .bool true]) := by
   have : sBack5 [.flt .f64 (wk (kHi p))] = some (backP (wk (kHi p))) := if_pos nb.1
   rw [this, backP_fin hfh]
  rw [enc_ofQ] at z1
  have z2 : f2 cmpP [(ofQ (vlQ (wk (kHi p)))).enc, (ofQ p).enc] = some (.int .i64 (cmpF (ofQ (vlQ (wk (kHi p)))) (ofQ p))) := f2_at (wf_ofQ _) (wf_ofQ _)
  rw [cmpF_num (sm_vlQ hfin) hp, enc_ofQ] at z2
  refine ⟨z1, rfl, j1, k3 j2, z2, fun ho2 => ?_, fun h => (by cases h), fun _ => ⟨?_, fun ho2 => ?_⟩⟩
  ·obtain ⟨m1, m2⟩ := k4 j2 ho2
   rw [m2]
   have z3 : f2 cmpP [(ofQ (vlQ ny)).enc, (ofQ p).enc] = some (.int .i64 (cmpF (ofQ (vlQ ny)) (ofQ p))) := f2_at (wf_ofQ _) (wf_ofQ _)
   rw [cmpF_num (sm_vlQ ⟨j2, m1⟩) hp] at z3
   exact z3
  ·exact cmp_nneg (cross (v := vz (kHi p)) (hi_ge (by omega)) (Int.le_of_eq (vl_cross hk).symm))
  ·obtain ⟨m1, m2⟩ := k4 j2 ho2
   have hkn := ky_fin (x := ny) ⟨j2, m1⟩
   rw [j3, hk] at hkn
   have h6 := hi_lt (q := p) (by omega)
   exact cmp_neg (cross_t (Int.le_of_eq (vl_cross (by rw [j3, hk]))) h6)
 ·obtain ⟨p, hp, rfl⟩ := Fr.ok_of ho
  rw [boundF_num hp] at ea
  cases ea
  have hb := k_bd p
  have k1 := ky_wk (k := kLo p) (by omega)
  have k2 := ky_wk (k := kHi p) (by omega)
  rw [(ord_lt na nb).2.2.1, k1, k2, decide_eq_true (by omega)]
 ·obtain ⟨p, hp, rfl⟩ := Fr.ok_of ho
  rw [boundF_num hp] at ea
  cases ea
  have hb := k_bd p
  have hfl := of_decide_eq_false hfl
  have k1 := ky_wk (k := kLo p) (by omega)
  have h2 : (ky (wk (kLo p))).natAbs = rg (wk (kLo p)) := by unfold ky; split <;> omega
  rw [k1] at h2
  rw [(ord_lt na (b := 0) ⟨by decide, by decide⟩).1, k1, show ky 0 = 0 by decide, decide_eq_true (by omega)]
 ·obtain ⟨p, hp, rfl⟩ := Fr.ok_of ho
  rw [boundF_num hp] at ea
  cases ea
  have hb := k_bd p
  have hfh := of_decide_eq_false hfh
  have k1 := ky_wk (k := kHi p) (by omega)
  have h2 : (ky (wk (kHi p))).natAbs = rg (wk (kHi p)) := by unfold ky; split <;> omega
  rw [k1] at h2
  rw [(ord_lt nb (b := 0) ⟨by decide, by decide⟩).2.1, k1, show ky 0 = 0 by decide, decide_eq_true (by omega)]
structure Add5 (S : Nat → List PVal → Option PVal) (a b c d : Nat) (C D W V : Nat) (s1 s2 s3 s4 s5 s6 : Bool) (x1 y1 x2 y2 x3 y3 x4 y4 x5 y5 x6 y6 : List PVal) (e f : Int) (q1 q2 q3 q4 : Nat) : Prop where
 ad : S 15 [.cpx .f64 a b, .cpx .f64 c d] = some (.cpx .f64 W V)
 ba : S 2 [.flt .f64 a] = some (.tup [.agg [.bool s1, .lst x1, .lst y1], .bool true])
 bb : S 2 [.flt .f64 b] = some (.tup [.agg [.bool s2, .lst x2, .lst y2], .bool true])
 bc : S 2 [.flt .f64 c] = some (.tup [.agg [.bool s3, .lst x3, .lst y3], .bool true])
 bd : S 2 [.flt .f64 d] = some (.tup [.agg [.bool s4, .lst x4, .lst y4], .bool true])
 s1 : S 16 [.agg [.bool s1, .lst x1, .lst y1], .agg [.bool s3, .lst x3, .lst y3]] = some (.tup [.agg [.bool s5, .lst x5, .lst y5], .int .i64 e])
 s2 : S 16 [.agg [.bool s2, .lst x2, .lst y2], .agg [.bool s4, .lst x4, .lst y4]] = some (.tup [.agg [.bool s6, .lst x6, .lst y6], .int .i64 f])
 q1 : e = 0 → S 4 [.agg [.bool s5, .lst x5, .lst y5]] = some (.cpx .f64 q1 q2) ∧ S 17 [.flt .f64 W, .flt .f64 q1] = some (.bool true)
 q2 : f = 0 → S 4 [.agg [.bool s6, .lst x6, .lst y6]] = some (.cpx .f64 q3 q4) ∧ S 17 [.flt .f64 V, .flt .f64 q4] = some (.bool true)
set_option maxHeartbeats 4000000 in
theorem adds_walk {a b c d ra rb rc rd C D W V q1 q2 q3 q4 : Nat} {s1 s2 s3 s4 s5 s6 fa fb fc fd ga gb gc gd : Bool} {x1 y1 x2 y2 x3 y3 x4 y4 x5 y5 x6 y6 : List PVal} {e f : Int} (v0 : S 0 [] = some (.bool true))
  (v1 : S 8 [.flt .f64 a] = some (.bool fa)) (v2 : S 8 [.flt .f64 b] = some (.bool fb)) (v3 : S 8 [.flt .f64 c] = some (.bool fc)) (v4 : S 8 [.flt .f64 d] = some (.bool fd))
  (w1 : S 14 [.flt .f64 a] = some (.flt .f64 ra)) (w2 : S 14 [.flt .f64 b] = some (.flt .f64 rb)) (w3 : S 14 [.flt .f64 c] = some (.flt .f64 rc)) (w4 : S 14 [.flt .f64 d] = some (.flt .f64 rd))
  (u1 : fa = true → binF .gtr .f64 ra 9094988921128908188 = some (.bool ga)) (u2 : fb = true → binF .gtr .f64 rb 9094988921128908188 = some (.bool gb)) (u3 : fc = true → binF .gtr .f64 rc 9094988921128908188 = some (.bool gc)) (u4 : fd = true → binF .gtr .f64 rd 9094988921128908188 = some (.bool gd))
  (hh : fa = true → fb = true → fc = true → fd = true → ga = false → gb = false → gc = false → gd = false → Add5 S a b c d C D W V s1 s2 s3 s4 s5 s6 x1 y1 x2 y2 x3 y3 x4 y4 x5 y5 x6 y6 e f q1 q2 q3 q4) :
  vc (Tq5 S) lf6.body (endQ (Tq5 S) lf6.results (.bool true)) (initFr [.p (.flt .f64 a), .p (.flt .f64 b), .p (.flt .f64 c), .p (.flt .f64 d)]) [] := by
 cases fa
 ·simp [lf6, fillA, v0, v1, Tq5_mu, Tq5_a, Tq5_b]
 cases fb
 ·simp [lf6, fillA, v0, v1, v2, Tq5_mu, Tq5_a, Tq5_b]
 cases fc
 ·simp [lf6, fillA, v0, v1, v2, v3, Tq5_mu, Tq5_a, Tq5_b]
 cases fd
 ·simp [lf6, fillA, v0, v1, v2, v3, v4, Tq5_mu, Tq5_a, Tq5_b]
 have u1 := u1 rfl
 have u2 := u2 rfl
 have u3 := u3 rfl
 have u4 := u4 rfl
 cases ga with
 | true => simp [lf6, fillA, v0, v1, v2, v3, v4, w1, u1, Tq5_mu, Tq5_a, Tq5_b]
 | false =>
 cases gb with
 | true => simp [lf6, fillA, v0, v1, v2, v3, v4, w1, u1, w2, u2, Tq5_mu, Tq5_a, Tq5_b]
 | false =>
 cases gc with
 | true => simp [lf6, fillA, v0, v1, v2, v3, v4, w1, u1, w2, u2, w3, u3, Tq5_mu, Tq5_a, Tq5_b]
 | false =>
 cases gd with
 | true => simp [lf6, fillA, v0, v1, v2, v3, v4, w1, u1, w2, u2, w3, u3, w4, u4, Tq5_mu, Tq5_a, Tq5_b]
 | false =>
 obtain ⟨h1, h2, h3, h4, h5, h6, h7, h8, h9⟩ := hh rfl rfl rfl rfl rfl rfl rfl rfl
 by_cases he : e = 0
 ·by_cases hf : f = 0
  ·obtain ⟨k1, k2⟩ := h8 he
   obtain ⟨k3, k4⟩ := h9 hf
   subst he hf
   simp [lf6, fillA, v0, v1, v2, v3, v4, w1, u1, w2, u2, w3, u3, w4, u4, h1, h2, h3, h4, h5, h6, h7, k1, k2, k3, k4, Tq5_mu, Tq5_a, Tq5_b]
  ·subst he
   have hf' : (f != 0) = true := by simpa using hf
   simp [lf6, fillA, v0, v1, v2, v3, v4, w1, u1, w2, u2, w3, u3, w4, u4, h1, h2, h3, h4, h5, h6, h7, hf', Tq5_mu, Tq5_a, Tq5_b]
 ·have he' : (e != 0) = true := by simpa using he
  simp [lf6, fillA, v0, v1, v2, v3, v4, w1, u1, w2, u2, w3, u3, w4, u4, h1, h2, h3, h4, h5, h6, h7, he', Tq5_mu, Tq5_a, Tq5_b]
end Go.Proofs.Ytbdccebpehogjaa
