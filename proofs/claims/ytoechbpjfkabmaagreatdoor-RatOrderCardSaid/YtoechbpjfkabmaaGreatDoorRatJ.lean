/-
  RatBetween and RatOrder answer true on all values. No conditions.
-/
import Derived.Test.YtoechbpjfkabmaaGreatDoorRatI
set_option linter.unusedSimpArgs false
set_option linter.unusedVariables false
set_option linter.constructorNameAsVariable false

/-
  law3: RatBetween, RatOrder answer true.
-/
namespace Go.Proofs.YtoechbpjfkabmaaGreatDoor
open Go Go.Abs Go.Limbs
variable {base : Prot}
set_option maxRecDepth 20000
attribute [local irreducible] vc
attribute [local simp] pureS touchV freezeL fuel shiftV u64 au
theorem fewP_two {x y : Fr} (wx : x.wf) (wy : y.wf) : f2 fewP [x.enc, y.enc] = some (.bool (fewF x y)) := f2_at wx wy
theorem between_ok : FnOk Tryz.prog base2 8 (pureS sLw2) := by
  refine pure_of_vc hmix Tl3_ok globNone low8 fun args z hs hf => ?_
  obtain ⟨x, y, wx, wy, rfl, rfl⟩ := f2_some hs
  refine ⟨by simp [lf8], ?_⟩
  have aw := sAwake3_nil
  have hfew1 := fewP_two wx wy
  have hC : f2 cmpP [x.enc, y.enc] = some (.int .i64 (cmpF x y)) := f2_at wx wy
  have v1 := vF wx
  have v2 := vF wy
  cases hf1 : fewF x y with
  | false => rw [hf1] at hfew1; simp only [Fr.enc] at hfew1 ⊢; simp [lf8, hfew1, aw, fillS, Tl3_mu, Tl3_fns]
  | true =>
  rw [hf1] at hfew1
  by_cases hc : 0 ≤ cmpF x y
  · obtain ⟨k, hk⟩ : ∃ k, k = cmpF x y := ⟨_, rfl⟩
    rw [← hk] at hC hc
    simp only [Fr.enc] at hfew1 hC ⊢
    simp [lf8, hfew1, hC, hc, aw, fillS, Tl3_mu, Tl3_fns]
  have hok : x.ok = true ∧ y.ok = true := by
    unfold cmpF at hc
    cases ox : x.ok <;> cases oy : y.ok <;> simp_all
  obtain ⟨ox, oy⟩ := hok
  rw [ox] at v1
  rw [oy] at v2
  obtain ⟨a, ha64, rfl⟩ := Fr.ok_of ox
  obtain ⟨b, hb64, rfl⟩ := Fr.ok_of oy
  obtain ⟨ha, hb⟩ := few_Sm hf1
  have hab : a < b := by
    rw [cmpF_num ha64 hb64] at hc
    exact cmpQ_neg_iff.1 (by omega)
  have hin := between_in hab
  have hw := between_whole hab
  have hz := between_zero hab
  have hno := between_none hab
  have hSx : Sm 22 (betweenQ a b) := Sm_between ha hb (by omega)
  have hSx64 : Sm 64 (betweenQ a b) := Sm_mono hSx (by omega)
  have Bt := sBet_num (Sm_mono ha (show 10 ≤ 60 by omega)) (Sm_mono hb (show 10 ≤ 60 by omega)) hab
  rw [heldQ_ok hSx64] at Bt
  obtain ⟨t, ht⟩ : ∃ t, t = betweenQ a b := ⟨_, rfl⟩
  rw [← ht] at hin hw hz hno hSx hSx64 Bt
  have c1 := cmpP_num ha64 hSx64
  have c2 := cmpP_num hSx64 hb64
  rw [cmpQ_lt hin.1] at c1
  rw [cmpQ_lt hin.2] at c2
  have hS1 : Sm 1 (1 : Rat) := Sm_lit (by decide) (by decide)
  have hS1' : Sm 64 (1 : Rat) := Sm_mono hS1 (by omega)
  have O := sQOf_num (n := 1) (d := 1) 1 (by omega) (by omega) (by rw [divInt_one]; rfl)
  have Z := sQOf_num (n := 0) (d := 1) 0 (by omega) (by omega) (by rw [divInt_one]; rfl)
  have e0 := sameP_two t 0
  have ga := signP_num ha64
  have gb := signP_num hb64
  have gx := signP_num hSx64
  have S : sSame [.lst ((ofQ t).d.map u64), .lst ((ofQ 1).d.map u64)] = some (.bool (decide (t.den = 1))) := sSame_two t.den 1
  have o1 := sIOf_one
  obtain ⟨k1, hk1⟩ : ∃ k, k = cmpF (ofQ a) (ofQ b) := ⟨_, rfl⟩
  rw [← hk1] at hC hc
  have hc' : k1 < 0 := by omega
  obtain ⟨q1, hq1⟩ : ∃ q : Rat, q = 1 := ⟨_, rfl⟩
  obtain ⟨q0, hq0⟩ : ∃ q : Rat, q = 0 := ⟨_, rfl⟩
  by_cases h0 : t = 0
  · obtain ⟨ha0, hb0⟩ := hz h0
    rw [cmpQ_lt ha0] at ga
    rw [cmpQ_gt hb0] at gb
    rw [decide_eq_true h0] at e0
    rw [← hq0] at e0 Z
    rw [← hq1] at O
    simp only [pairF, Fr.enc] at hfew1 hC v1 v2 Bt c1 c2 O Z e0 ga gb ⊢
    simp [lf8, hfew1, hC, hc, hc', v1, v2, Bt, c1, c2, O, Z, e0, ga, gb, aw, fillS, Tl3_mu, Tl3_fns]
  · rw [decide_eq_false h0] at e0
    by_cases hd : t.den = 1
    · rw [decide_eq_true hd] at S
      have hSub : Sm 64 (t - 1) := Sm_mono (Sm_sub hSx hS1) (by omega)
      have hAdd : Sm 64 (t + 1) := Sm_mono (Sm_add hSx hS1) (by omega)
      have D := subP_num hSx64 hS1' hSub
      have A := addP_num hSx64 hS1' hAdd
      obtain ⟨w1, w2⟩ := hw h0 hd
      by_cases ht0 : t < 0
      · obtain ⟨u1, u2⟩ := w1 ht0
        have m1 := cmpP_num hAdd ha64
        have m2 := cmpP_num hAdd hb64
        have hm2 : 0 ≤ cmpQ (t + 1) b := Int.not_lt.1 fun h => absurd (cmpQ_neg_iff.1 h) (Rat.not_lt.2 u1)
        have hgb : cmpQ b 0 ≤ 0 := Int.not_lt.1 fun h => absurd (cmpQ_pos_iff.1 h) (Rat.not_lt.2 u2)
        rw [cmpQ_lt ht0] at gx
        obtain ⟨tp, htp⟩ : ∃ x, x = t + 1 := ⟨_, rfl⟩
        obtain ⟨tm, htm⟩ : ∃ x, x = t - 1 := ⟨_, rfl⟩
        rw [← htp] at A m1 m2 hm2
        rw [← htm] at D
        obtain ⟨j1, hj1⟩ : ∃ k, k = cmpQ tp a := ⟨_, rfl⟩
        obtain ⟨j2, hj2⟩ : ∃ k, k = cmpQ tp b := ⟨_, rfl⟩
        obtain ⟨j3, hj3⟩ : ∃ k, k = cmpQ b 0 := ⟨_, rfl⟩
        obtain ⟨j4, hj4⟩ : ∃ k, k = cmpQ a 0 := ⟨_, rfl⟩
        rw [← hj1] at m1
        rw [← hj2] at m2 hm2
        rw [← hj3] at gb hgb
        rw [← hj4] at ga
        rw [← hq0] at e0 Z
        rw [← hq1] at O D A S
        simp only [pairF, Fr.enc] at hfew1 hC v1 v2 Bt c1 c2 O Z e0 ga gb gx D A m1 m2 ⊢
        by_cases p1 : j1 ≤ 0 <;> by_cases p4 : 0 ≤ j4 <;> simp [lf8, hfew1, hC, hc, hc', v1, v2, Bt, c1, c2, O, Z, e0, ga, gb, gx, D, A, S, m1, m2, hm2, hgb, p1, p4, aw, fillS, Tl3_mu, Tl3_fns]
      · obtain ⟨u1, u2⟩ := w2 ht0
        have m1 := cmpP_num hSub ha64
        have hm1 : cmpQ (t - 1) a ≤ 0 := Int.not_lt.1 fun h => absurd (cmpQ_pos_iff.1 h) (Rat.not_lt.2 u1)
        have hga : 0 ≤ cmpQ a 0 := Int.not_lt.1 fun h => u2 (cmpQ_neg_iff.1 h)
        have hgx : ¬ cmpQ t 0 < 0 := fun h => ht0 (cmpQ_neg_iff.1 h)
        obtain ⟨tm, htm⟩ : ∃ x, x = t - 1 := ⟨_, rfl⟩
        rw [← htm] at D m1 hm1
        obtain ⟨j1, hj1⟩ : ∃ k, k = cmpQ tm a := ⟨_, rfl⟩
        obtain ⟨j2, hj2⟩ : ∃ k, k = cmpQ t 0 := ⟨_, rfl⟩
        obtain ⟨j4, hj4⟩ : ∃ k, k = cmpQ a 0 := ⟨_, rfl⟩
        rw [← hj1] at m1 hm1
        rw [← hj2] at gx hgx
        rw [← hj4] at ga hga
        rw [← hq0] at e0 Z
        rw [← hq1] at O D S
        simp only [pairF, Fr.enc] at hfew1 hC v1 v2 Bt c1 c2 O Z e0 ga gx D m1 ⊢
        simp [lf8, hfew1, hC, hc, hc', v1, v2, Bt, c1, c2, O, Z, e0, ga, gx, D, S, m1, hm1, hga, hgx, aw, fillS, Tl3_mu, Tl3_fns]
    · rw [decide_eq_false hd] at S
      have hb1 := hno hd
      have F := sFloor_num (Sm_mono ha (show 10 ≤ 60 by omega))
      have hl : zl a.floor ≤ 11 := len_floor ha.1
      have N := newQ_num (z := a.floor) (by omega)
      have hSf : Sm 11 (a.floor : Rat) := Sm_int (show len a.floor.natAbs ≤ 11 from hl) (by omega)
      have hAdd : Sm 64 ((a.floor : Rat) + 1) := Sm_mono (Sm_add hSf hS1) (by omega)
      have A := addP_num (Sm_mono hSf (by omega)) hS1' hAdd
      have m2 := cmpP_num hAdd hb64
      rw [Rat.intCast_add] at hb1
      have hm2 : 0 ≤ cmpQ ((a.floor : Rat) + 1) b := Int.not_lt.1 fun h => absurd (cmpQ_neg_iff.1 h) (Rat.not_lt.2 hb1)
      rw [iN_case a.floor] at F N
      obtain ⟨fp, hfp⟩ : ∃ x, x = (a.floor : Rat) + 1 := ⟨_, rfl⟩
      rw [← hfp] at A m2 hm2
      obtain ⟨fl, hfl⟩ : ∃ x, x = (a.floor : Rat) := ⟨_, rfl⟩
      rw [← hfl] at A N
      obtain ⟨j2, hj2⟩ : ∃ k, k = cmpQ fp b := ⟨_, rfl⟩
      rw [← hj2] at m2 hm2
      rw [← hq0] at e0 Z
      rw [← hq1] at O A S
      simp only [pairF, Fr.enc] at hfew1 hC v1 v2 Bt c1 c2 O Z e0 F N A m2 ⊢
      simp [lf8, hfew1, hC, hc, hc', v1, v2, Bt, c1, c2, O, Z, e0, S, F, vc_regionW, fillS, Tl3_mu, Tl3_fns]
      refine ⟨[], ?_⟩
      simp [o1, N, A, O, m2, hm2, aw, fillS, Tl3_mu, Tl3_fns]
      exact fun k hk => by match k, hk with | 0, _ => rfl | 1, _ => rfl | 2, _ => rfl | 3, _ => rfl | 4, _ => rfl
theorem wrap_sgn {z : Int} (h : -1 ≤ z ∧ z ≤ 1) : IntKind.i64.wrap z = z := IntWalk.i64_in _ (by omega)
theorem cmpQ_rng (p q : Rat) : -1 ≤ cmpQ p q ∧ cmpQ p q ≤ 1 := by rcases cmpQ_case p q with h | h | h <;> omega
theorem qorder_ok : FnOk Tryz.prog base2 9 (pureS sLw3) := by
  refine pure_of_vc hmix Tl3_ok globNone low9 fun args z hs hf => ?_
  obtain ⟨x, y, w, wx, wy, ww, rfl, rfl⟩ := sLw3_some hs
  refine ⟨by simp [lf9], ?_⟩
  have aw := sAwake3_nil
  have hfew1 := fewP_two wx wy
  have hfew2 := fewP_two ww ww
  have v1 := vF wx
  have v2 := vF wy
  have v3 := vF ww
  cases hf1 : fewF x y with
  | false => rw [hf1] at hfew1; simp only [Fr.enc] at hfew1 ⊢; simp [lf9, hfew1, aw, fillS, Tl3_mu, Tl3_fns]
  | true =>
  rw [hf1] at hfew1
  cases hf2 : fewF w w with
  | false => rw [hf2] at hfew2; simp only [Fr.enc] at hfew1 hfew2 ⊢; simp [lf9, hfew1, hfew2, aw, fillS, Tl3_mu, Tl3_fns]
  | true =>
  rw [hf2] at hfew2
  cases ox : x.ok with
  | false => rw [ox] at v1; simp only [Fr.enc] at hfew1 hfew2 v1 ⊢; simp [lf9, hfew1, hfew2, v1, aw, fillS, Tl3_mu, Tl3_fns]
  | true =>
  rw [ox] at v1
  cases oy : y.ok with
  | false => rw [oy] at v2; simp only [Fr.enc] at hfew1 hfew2 v1 v2 ⊢; simp [lf9, hfew1, hfew2, v1, v2, aw, fillS, Tl3_mu, Tl3_fns]
  | true =>
  rw [oy] at v2
  cases ow : w.ok with
  | false => rw [ow] at v3; simp only [Fr.enc] at hfew1 hfew2 v1 v2 v3 ⊢; simp [lf9, hfew1, hfew2, v1, v2, v3, aw, fillS, Tl3_mu, Tl3_fns]
  | true =>
  rw [ow] at v3
  obtain ⟨a, ha64, rfl⟩ := Fr.ok_of ox
  obtain ⟨b, hb64, rfl⟩ := Fr.ok_of oy
  obtain ⟨c, hc64, rfl⟩ := Fr.ok_of ow
  obtain ⟨ha, hb⟩ := few_Sm hf1
  obtain ⟨hc, _⟩ := few_Sm hf2
  have c1 := cmpP_num ha64 hb64
  have c2 := cmpP_num hb64 ha64
  have n1 := negP_num ha64
  have n2 := negP_num hb64
  have c3 := cmpP_num (Sm_neg ha64) (Sm_neg hb64)
  have e1 := sameP_two a b
  have e2 := sameP_self a
  have hac : Sm 64 (a + c) := Sm_mono (Sm_add ha hc) (by omega)
  have hbc : Sm 64 (b + c) := Sm_mono (Sm_add hb hc) (by omega)
  have kac : Sm 64 (a * c) := Sm_mono (Sm_mul ha hc) (by omega)
  have kbc : Sm 64 (b * c) := Sm_mono (Sm_mul hb hc) (by omega)
  have s1 := addP_num ha64 hc64 hac
  have s2 := addP_num hb64 hc64 hbc
  have s3 := mulP_num ha64 hc64 kac
  have s4 := mulP_num hb64 hc64 kbc
  have c4 := cmpP_num hac hbc
  have c5 := cmpP_num kac kbc
  have g := signP_num hc64
  have T := text_frac ha64 rfl
  have Pp := sQParse_at (s := textQ a) (Nat.le_trans (textQ_len ha64) (by omega))
  rw [parseQ_text ha64] at Pp
  rw [cmpQ_anti b a] at c2
  rw [cmpQ_neg] at c3
  rw [cmpQ_add] at c4
  rw [cmpQ_mul] at c5
  have r1 := cmpQ_rng a b
  have r2 := cmpQ_rng c 0
  have hz : (cmpQ a b == 0) = decide (a = b) := by
    by_cases h : a = b
    · rw [decide_eq_true h, cmpQ_zero_iff.2 h]; rfl
    · rw [decide_eq_false h]; exact beq_false_of_ne fun e => h (cmpQ_zero_iff.1 e)
  obtain ⟨k, hk⟩ : ∃ k, k = cmpQ a b := ⟨_, rfl⟩
  obtain ⟨j, hj⟩ : ∃ k, k = cmpQ c 0 := ⟨_, rfl⟩
  obtain ⟨bq, hbq⟩ : ∃ q, q = decide (a = b) := ⟨_, rfl⟩
  obtain ⟨x1, hx1⟩ : ∃ x, x = a + c := ⟨_, rfl⟩
  obtain ⟨x2, hx2⟩ : ∃ x, x = b + c := ⟨_, rfl⟩
  obtain ⟨x3, hx3⟩ : ∃ x, x = a * c := ⟨_, rfl⟩
  obtain ⟨x4, hx4⟩ : ∃ x, x = b * c := ⟨_, rfl⟩
  obtain ⟨x5, hx5⟩ : ∃ x, x = -a := ⟨_, rfl⟩
  obtain ⟨x6, hx6⟩ : ∃ x, x = -b := ⟨_, rfl⟩
  obtain ⟨tx, htx⟩ : ∃ x, x = textQ a := ⟨_, rfl⟩
  rw [← hk] at c1 c2 c3 c4 c5 r1 hz
  rw [← hj] at c5 g r2
  rw [← hbq] at e1 hz
  rw [← hx1] at s1 c4
  rw [← hx2] at s2 c4
  rw [← hx3] at s3 c5
  rw [← hx4] at s4 c5
  rw [← hx5] at n1 c3
  rw [← hx6] at n2 c3
  rw [← htx] at T Pp
  have q1 : IntKind.i64.wrap k = k := wrap_sgn r1
  have q2 : IntKind.i64.wrap (-k) = -k := wrap_sgn (by omega)
  have q3 : IntKind.i64.wrap (k * j) = k * j := by
    refine wrap_sgn ?_
    have hkk : k = -1 ∨ k = 0 ∨ k = 1 := by omega
    have hjj : j = -1 ∨ j = 0 ∨ j = 1 := by omega
    rcases hkk with rfl | rfl | rfl <;> rcases hjj with rfl | rfl | rfl <;> decide
  simp only [pairF, Fr.enc] at hfew1 hfew2 v1 v2 v3 c1 c2 c3 c4 c5 n1 n2 e1 e2 s1 s2 s3 s4 g T Pp ⊢
  simp [lf9, hfew1, hfew2, v1, v2, v3, c1, c2, c3, c4, c5, n1, n2, e1, e2, s1, s2, s3, s4, g, T, Pp, hz, q1, q2, q3, aw, fillS, Tl3_mu, Tl3_fns]
end Go.Proofs.YtoechbpjfkabmaaGreatDoor
