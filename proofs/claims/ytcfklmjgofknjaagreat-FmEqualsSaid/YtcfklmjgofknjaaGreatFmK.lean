/-
  FmEquals answers true on all values. No conditions.
-/
import Derived.Test.YtcfklmjgofknjaaGreatFmI
set_option linter.unusedSimpArgs false
set_option linter.unnecessarySimpa false
set_option linter.unusedVariables false
set_option linter.constructorNameAsVariable false

/-
 law23: FmEquals answers true.
-/
namespace Go.Proofs.YtcfklmjgofknjaaGreat
open Go Go.Abs Go.Limbs
variable {base : Prot}
set_option maxRecDepth 20000
attribute [local irreducible] vc
attribute [local simp] pureS touchV freezeL fuel shiftV u64 au
def Tm23e : Tab := (((((((Tab.none.with 12 (pureS sAwk)).with 28 (pureS sLe)).with 32 (pureS (ki makeP))).with 15 (pureS (j2v twoP))).with 13 (pureS (j1v boundPL))).with 33 (pureS (h2 sameAt))).with 31 (pureS sQOf)).with 30 (pureS sHld)
theorem Tm23e_ok : TabOk Tryz.prog base Tm23e := Tab.with_ok (Tab.with_ok (Tab.with_ok (Tab.with_ok (Tab.with_ok (Tab.with_ok (Tab.with_ok (Tab.with_ok Tab.none_ok awake23_ok) le23_ok) rmake_ok) ftwo_ok) fbound_ok) rsamea_ok) rofR_ok) hld23_ok
theorem Tm23e_mu (f : FuncId) (a : List AVal) (H : Heap) : Tm23e.mu f a H = none := (rfl)
theorem Tm23e_fns : Tm23e.fn 12 = (pureS sAwk) ∧ Tm23e.fn 28 = (pureS sLe) ∧ Tm23e.fn 32 = (pureS (ki makeP)) ∧ Tm23e.fn 15 = (pureS (j2v twoP)) ∧ Tm23e.fn 13 = (pureS (j1v boundPL)) ∧ Tm23e.fn 33 = (pureS (h2 sameAt)) ∧ Tm23e.fn 31 = (pureS sQOf) ∧ Tm23e.fn 30 = (pureS sHld) := ⟨rfl, rfl, rfl, rfl, rfl, rfl, rfl, rfl⟩
def sLaw23e : List PVal → Option PVal
 | [.int .i64 _, .int .i64 _, .int .i64 _, .int .i64 _, .int .i64 _, .bool _, .int .i64 _] => some (.bool true)
 | _ => none
theorem lit_lq (c d k : Int) : (ofP (lq c d k)).lit 2 = true := by
 refine decide_eq_true ?_
 show ((lq c d k).ps.map ofA).length ≤ 2
 unfold lq
 by_cases h1 : c = 0 <;> by_cases h2 : d = 0 <;> simp [h1, h2]
set_option maxHeartbeats 8000000 in
theorem fmEquals_ok : FnOk Tryz.prog base 7 (pureS sLaw23e) := by
 refine pure_of_vc hmix Tm23e_ok globNone low7 fun args z hs hf => ?_
 unfold sLaw23e at hs
 split at hs
 case h_2 => cases hs
 rename_i d k c n o st y
 cases hs
 refine ⟨by simp [lf7], ?_⟩
 have aw := sAwk_nil
 have hM1 : 1 ≤ maxLen := by have := maxLen_ge; omega
 have hM2 : 2 ≤ maxLen := by have := maxLen_ge; omega
 by_cases q1 : c = 0
 ·simp [lf7, q1, aw, fillS, Tm23e_mu, Tm23e_fns]
 have n1 : ((c : Int) == 0) = false := by rw [← Bool.not_eq_true, beq_iff_eq]; exact q1
 by_cases q2 : c < -10
 ·simp [lf7, n1, q2, aw, fillS, Tm23e_mu, Tm23e_fns]
 by_cases q3 : 10 < c
 ·simp [lf7, n1, q2, q3, aw, fillS, Tm23e_mu, Tm23e_fns]
 by_cases q4 : d < -20
 ·simp [lf7, n1, q2, q3, q4, aw, fillS, Tm23e_mu, Tm23e_fns]
 by_cases q5 : 20 < d
 ·simp [lf7, n1, q2, q3, q4, q5, aw, fillS, Tm23e_mu, Tm23e_fns]
 by_cases q6 : k < -50
 ·simp [lf7, n1, q2, q3, q4, q5, q6, aw, fillS, Tm23e_mu, Tm23e_fns]
 by_cases q7 : 50 < k
 ·simp [lf7, n1, q2, q3, q4, q5, q6, q7, aw, fillS, Tm23e_mu, Tm23e_fns]
 by_cases q8 : n < -20
 ·simp [lf7, n1, q2, q3, q4, q5, q6, q7, q8, aw, fillS, Tm23e_mu, Tm23e_fns]
 by_cases q9 : 20 < n
 ·simp [lf7, n1, q2, q3, q4, q5, q6, q7, q8, q9, aw, fillS, Tm23e_mu, Tm23e_fns]
 by_cases q10 : o < -50
 ·simp [lf7, n1, q2, q3, q4, q5, q6, q7, q8, q9, q10, aw, fillS, Tm23e_mu, Tm23e_fns]
 by_cases q11 : 50 < o
 ·simp [lf7, n1, q2, q3, q4, q5, q6, q7, q8, q9, q10, q11, aw, fillS, Tm23e_mu, Tm23e_fns]
 by_cases q12 : y < -50
 ·simp [lf7, n1, q2, q3, q4, q5, q6, q7, q8, q9, q10, q11, q12, aw, fillS, Tm23e_mu, Tm23e_fns]
 by_cases q13 : 50 < y
 ·simp [lf7, n1, q2, q3, q4, q5, q6, q7, q8, q9, q10, q11, q12, q13, aw, fillS, Tm23e_mu, Tm23e_fns]
 have dy := mul_small (a := -d) (b := y) (m := 20) (n := 50) (by omega) (by omega)
 have dk : -1050 ≤ -d * y - k ∧ -d * y - k ≤ 1050 := by omega
 have cdk := mul_small (a := c) (b := -d * y - k) (m := 10) (n := 1050) (by omega) (by omega)
 have ny := mul_small (a := n) (b := y) (m := 20) (n := 50) (by omega) (by omega)
 have x1 : IntKind.i64.wrap (-d) = -d := wrap_small (by omega)
 have x2 : IntKind.i64.wrap (-d * y) = -d * y := wrap_small (by omega)
 have x3 : IntKind.i64.wrap (-d * y - k) = -d * y - k := wrap_small (by omega)
 have x4 : IntKind.i64.wrap (c * (-d * y - k)) = c * (-d * y - k) := wrap_small (by omega)
 have x5 : IntKind.i64.wrap (n * y) = n * y := wrap_small (by omega)
 have x6 : IntKind.i64.wrap (c * (-d * y - k) + n * y) = c * (-d * y - k) + n * y := wrap_small (by omega)
 have x7 : IntKind.i64.wrap (c * (-d * y - k) + n * y + o) = c * (-d * y - k) + n * y + o := wrap_small (by omega)
 have hl : lookB [bd4 y] 4 = ofQ (y : Rat) := rfl
 obtain ⟨x, h1', h2', h3', h4', h5'⟩ := equals_law (d := d) (k := k) (c := c) (n := n) (o := o) (y := y) (st := st) (lk := lookB [bd4 y]) q1 (by omega) (by omega) (by omega) (by omega) (by omega) (by omega) hl
 obtain ⟨hm, -, -⟩ := eq_view (d := d) (k := k) (by omega) (by omega)
 have hA : eqA d k = atQ 3 (lq 1 d k) := by unfold eqA; rw [hm]
 have y1 : sLe [.int .i64 c, .int .i64 n, .int .i64 o, .bool st] = some (Lt.mk (leA c n o st) false).enc := sLe_at (by omega) (by omega) (by omega)
 have o1 := ofI (n := 1) (by omega)
 have o2 := ofI (n := d) (by omega)
 have o3 := ofI (n := k) (by omega)
 have o4 := ofI (n := y) (by omega)
 have m1 : ki makeP [.int .i64 3, (ofP (lq 1 d k)).enc] = some (tripAt (makeAt 3 (ofP (lq 1 d k)))) := ki_at (wf_ofP _) (lit_few (lit_lq 1 d k) (by decide))
 rw [hm] at m1
 unfold tripAt at m1
 rw [enc_ofP] at m1
 dsimp only at m1
 have lh : (eqA d k).p.lit 2 = true := by rw [hA]; exact lit_lq 1 d k
 have wh : (eqA d k).p.wf := by rw [hA]; exact wf_ofP _
 rw [← hA] at m1
 have eps : (lq 1 d k).ps = (((1 : Int) : Rat), 3) :: (if d = 0 then [] else [((d : Rat), 4)]) := by simp [lq]
 have ec : (lq 1 d k).c = (k : Rat) := rfl
 rw [eps, ec] at m1
 clear hA hm
 generalize eqA d k = K at m1 h1' h2' h5' lh wh
 generalize hG : leA c n o st = G at y1 h1' h2'
 have wG : G.p.wf := by rw [← hG]; exact wf_leA _ _ _ _
 have lG : G.p.lit 2 = true := by rw [← hG]; exact lit_leA _ _ _ _
 clear hG
 have z1 : j2v twoP [(Lt.mk K false).enc, (Lt.mk G false).enc, .int .i64 3] = some (pairLs (twoL ⟨K, false⟩ ⟨G, false⟩ 3)) := j2v_at wh (lit_mono lh (by decide)) wG (lit_mono lG (by decide))
 have z2 : j2v twoP [(Lt.mk G false).enc, (Lt.mk K false).enc, .int .i64 3] = some (pairLs (twoL ⟨G, false⟩ ⟨K, false⟩ 3)) := j2v_at wG (lit_mono lG (by decide)) wh (lit_mono lh (by decide))
 have z3 : j1v boundPL [(Lt.mk K false).enc, .int .i64 3] = some (tripB (boundL ⟨K, false⟩ 3)) := j1v_at wh (lit_mono lh (by decide))
 have wT := wf_twoL (a := ⟨K, false⟩) (b := ⟨G, false⟩) wh wG 3
 have fT := few_twoL (a := ⟨K, false⟩) (b := ⟨G, false⟩) (lit_mono lh (by decide)) (lit_mono lG (by decide)) 3
 rw [h1'] at z1 wT fT
 rw [h2'] at z2
 rw [h5'] at z3
 have wx : x.p.wf := wT ⟨x, false⟩ (by simp)
 have fx : (Lt.mk x false).few = true := List.all_eq_true.1 fT ⟨x, false⟩ (by simp)
 have s1 := sameAt_self wx
 have s2 := sameAt_self wh
 have z4 : sHld [(Lt.mk x false).enc, .lst ([bd4 y].map Bd.enc)] = some (.tup [.bool (hldP (lookB [bd4 y]) ⟨x, false⟩).1, .bool (hldP (lookB [bd4 y]) ⟨x, false⟩).2]) := sHld_at wx fx (wf_bd4 y)
 have hh : hldP (lookB [bd4 y]) ⟨x, false⟩ = ((decide (c * (-d * y - k) + n * y + o < 0) || (decide (c * (-d * y - k) + n * y + o = 0) && !st)), true) := by
  unfold hldP
  dsimp only
  rw [h3', h4']
  simp
 rw [hh] at z4
 obtain ⟨V, hV⟩ : ∃ V, V = c * (-d * y - k) + n * y + o := ⟨_, rfl⟩
 rw [← hV] at z4
 have x7 := x7.trans hV.symm
 have eb : bd4 y = ⟨4, ofQ (y : Rat)⟩ := rfl
 rw [eb] at z4
 generalize hQ1 : ofQ ((1 : Int) : Rat) = Q1 at o1 m1
 generalize hQ2 : ofQ (d : Rat) = Q2 at o2 m1
 generalize hQ3 : ofQ (k : Rat) = Q3 at o3 m1
 generalize ofQ (y : Rat) = Y at o4 z4
 unfold pairLs at z1 z2
 unfold tripB at z3
 simp only [At.enc, Lt.enc, Po.enc, Fr.enc, Bd.enc, List.map_cons, List.map_nil] at y1 z1 z2 z3 z4 s1 s2 o1 o2 o3 o4 m1
 have hv3 : ∃ b1 b2 : Bool, decide (V < 0) = b1 ∧ (V == 0) = b2 ∧ decide (V = 0) = b2 := ⟨_, _, rfl, rfl, rfl⟩
 obtain ⟨b1, b2, n2, n3, n4⟩ := hv3
 rw [n2, n4] at z4
 by_cases hd : d = 0
 ·rw [if_pos hd] at m1
  have nd : ((d : Int) != 0) = false := by simp [hd]
  simp only [List.map_nil, hQ1, hQ2, hQ3] at m1
  simp [lf7, n1, q2, q3, q4, q5, q6, q7, q8, q9, q10, q11, q12, q13, nd, o1, o2, o3, y1, z1, z2, s1, s2, m1, x1, x2, x3, x4, x5, x6, x7, hM1, hM2, fillS, freeze1, Tm23e_mu, Tm23e_fns]
  rw [vc_regionW]
  refine ⟨[], ?_⟩
  cases b1 <;> cases b2 <;> cases st
  all_goals
   simp [o4, z3, z4, n2, n3, aw, fillS, freeze1, Tm23e_mu, Tm23e_fns]
   exact keepT rfl
 ·rw [if_neg hd] at m1
  have nd : ((d : Int) != 0) = true := by simp [hd]
  simp only [List.map_cons, List.map_nil, hQ1, hQ2, hQ3] at m1
  simp [lf7, n1, q2, q3, q4, q5, q6, q7, q8, q9, q10, q11, q12, q13, nd, o1, o2, o3, y1, z1, z2, s1, s2, m1, x1, x2, x3, x4, x5, x6, x7, hM1, hM2, fillS, freeze1, Tm23e_mu, Tm23e_fns]
  rw [vc_regionW]
  refine ⟨[], ?_⟩
  simp [n1, q2, q3, q4, q5, q6, q7, q8, q9, q10, q11, q12, q13, nd, o1, o2, o3, y1, z1, z2, s1, s2, m1, x1, x2, x3, x4, x5, x6, x7, hM1, hM2, fillS, freeze1, Tm23e_mu, Tm23e_fns]
  refine ⟨keepT rfl, ?_⟩
  rw [vc_regionW]
  refine ⟨[], ?_⟩
  cases b1 <;> cases b2 <;> cases st
  all_goals
   simp [o4, z3, z4, n2, n3, aw, fillS, freeze1, Tm23e_mu, Tm23e_fns]
   exact keepT rfl
end Go.Proofs.YtcfklmjgofknjaaGreat
