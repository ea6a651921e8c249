/-
  FmHole answers true on all values. No conditions.
-/
import Derived.Test.YtcfklmjgofknjaaGreatFmI
set_option linter.unusedSimpArgs false
set_option linter.unnecessarySimpa false
set_option linter.unusedVariables false
set_option linter.constructorNameAsVariable false

/-
 law23: FmHole answers true.
-/
namespace Go.Proofs.YtcfklmjgofknjaaGreat
open Go Go.Abs Go.Limbs
variable {base : Prot}
set_option maxRecDepth 20000
attribute [local irreducible] vc
attribute [local simp] pureS touchV freezeL fuel shiftV u64 au
def Tm23h : Tab := ((((((Tab.none.with 12 (pureS sAwk)).with 28 (pureS sLe)).with 32 (pureS (ki makeP))).with 17 (pureS (j3v threeP))).with 29 (pureS (gi coefP))).with 31 (pureS sQOf)).with 30 (pureS sHld)
theorem Tm23h_ok : TabOk Tryz.prog base Tm23h := Tab.with_ok (Tab.with_ok (Tab.with_ok (Tab.with_ok (Tab.with_ok (Tab.with_ok (Tab.with_ok Tab.none_ok awake23_ok) le23_ok) rmake_ok) fthree_ok) rcoef_ok) rofR_ok) hld23_ok
theorem Tm23h_mu (f : FuncId) (a : List AVal) (H : Heap) : Tm23h.mu f a H = none := (rfl)
theorem Tm23h_fns : Tm23h.fn 12 = (pureS sAwk) ∧ Tm23h.fn 28 = (pureS sLe) ∧ Tm23h.fn 32 = (pureS (ki makeP)) ∧ Tm23h.fn 17 = (pureS (j3v threeP)) ∧ Tm23h.fn 29 = (pureS (gi coefP)) ∧ Tm23h.fn 31 = (pureS sQOf) ∧ Tm23h.fn 30 = (pureS sHld) := ⟨rfl, rfl, rfl, rfl, rfl, rfl, rfl⟩
def sLaw23h : List PVal → Option PVal
 | [.int .i64 _, .int .i64 _, .int .i64 _] => some (.bool true)
 | _ => none
set_option maxHeartbeats 8000000 in
theorem fmHole_ok : FnOk Tryz.prog base 6 (pureS sLaw23h) := by
 refine pure_of_vc hmix Tm23h_ok globNone low6 fun args z hs hf => ?_
 unfold sLaw23h at hs
 split at hs
 case h_2 => cases hs
 rename_i c d y
 cases hs
 refine ⟨by simp [lf6], ?_⟩
 have aw := sAwk_nil
 by_cases q1 : c < -20
 ·simp [lf6, q1, aw, fillS, Tm23h_mu, Tm23h_fns]
 by_cases q2 : 20 < c
 ·simp [lf6, q1, q2, aw, fillS, Tm23h_mu, Tm23h_fns]
 by_cases q3 : d < -20
 ·simp [lf6, q1, q2, q3, aw, fillS, Tm23h_mu, Tm23h_fns]
 by_cases q4 : 20 < d
 ·simp [lf6, q1, q2, q3, q4, aw, fillS, Tm23h_mu, Tm23h_fns]
 by_cases q5 : y < -50
 ·simp [lf6, q1, q2, q3, q4, q5, aw, fillS, Tm23h_mu, Tm23h_fns]
 by_cases q6 : 50 < y
 ·simp [lf6, q1, q2, q3, q4, q5, q6, aw, fillS, Tm23h_mu, Tm23h_fns]
 have x1 : IntKind.i64.wrap (-c) = -c := wrap_small (by omega)
 have x2 : IntKind.i64.wrap (-d) = -d := wrap_small (by omega)
 have x3 : IntKind.i64.wrap (y + c) = y + c := wrap_small (by omega)
 have x4 : IntKind.i64.wrap (2 * y) = 2 * y := wrap_small (by omega)
 have x5 : IntKind.i64.wrap (2 * y + d) = 2 * y + d := wrap_small (by omega)
 have hl : lookB [bd4 y] 4 = ofQ (y : Rat) := rfl
 obtain ⟨hm, x, w, h1', cx, cw, hx, hw⟩ := hole_law (c := c) (d := d) (y := y) (lk := lookB [bd4 y]) (by omega) (by omega) (by omega) hl
 have y1 : sLe [.int .i64 (-1), .int .i64 1, .int .i64 c, .bool false] = some (Lt.mk (leA (-1) 1 c false) false).enc := sLe_at (by omega) (by omega) (by omega)
 have y2 : sLe [.int .i64 1, .int .i64 (-2), .int .i64 (-d), .bool false] = some (Lt.mk (leA 1 (-2) (-d) false) false).enc := sLe_at (by omega) (by omega) (by omega)
 have o1 := ofI (n := 1) (by omega)
 have o2 := ofI (n := -1) (by omega)
 have o3 := ofI (n := -c) (by omega)
 have o4 := ofI (n := y) (by omega)
 have m1 : ki makeP [.int .i64 4, (ofP (lq 1 (-1) (-c))).enc] = some (tripAt (makeAt 4 (ofP (lq 1 (-1) (-c))))) := ki_at (wf_ofP _) (by
  refine decide_eq_true ?_
  show ((lq 1 (-1) (-c)).ps.map ofA).length ≤ 1000000
  simp [lq])
 rw [hm] at m1
 unfold tripAt at m1
 rw [enc_ofP] at m1
 dsimp only at m1
 have lh : (atQ 3 (lq 1 (-1) (-c))).p.lit 2 = true := decide_eq_true (by show ((lq 1 (-1) (-c)).ps.map ofA).length ≤ 2; simp [lq])
 have wh : (atQ 3 (lq 1 (-1) (-c))).p.wf := wf_ofP _
 have eps : (lq 1 (-1) (-c)).ps = [(((1 : Int) : Rat), 3), (((-1 : Int) : Rat), 4)] := by simp [lq]
 have ec : (lq 1 (-1) (-c)).c = ((-c : Int) : Rat) := rfl
 rw [eps, ec] at m1
 simp only [List.map_cons, List.map_nil] at m1
 generalize atQ 3 (lq 1 (-1) (-c)) = K at m1 h1' lh wh
 have z1 : j3v threeP [(Lt.mk (leA (-1) 1 c false) false).enc, (Lt.mk (leA 1 (-2) (-d) false) false).enc, (Lt.mk K true).enc, .int .i64 3] = some (pairLs (threeL ⟨leA (-1) 1 c false, false⟩ ⟨leA 1 (-2) (-d) false, false⟩ ⟨K, true⟩ 3)) := j3v_at (wf_leA _ _ _ _) (lit_mono (lit_leA _ _ _ _) (by decide)) (wf_leA _ _ _ _) (lit_mono (lit_leA _ _ _ _) (by decide)) wh (lit_mono lh (by decide))
 have wT := wf_threeL (a := ⟨leA (-1) 1 c false, false⟩) (b := ⟨leA 1 (-2) (-d) false, false⟩) (c := ⟨K, true⟩) (wf_leA _ _ _ _) (wf_leA _ _ _ _) wh 3
 have fT := few_threeL (a := ⟨leA (-1) 1 c false, false⟩) (b := ⟨leA 1 (-2) (-d) false, false⟩) (c := ⟨K, true⟩) (lit_mono (lit_leA _ _ _ _) (by decide)) (lit_mono (lit_leA _ _ _ _) (by decide)) (lit_mono lh (by decide)) 3
 rw [h1'] at z1 wT fT
 have wx : x.p.wf := wT ⟨x, false⟩ (by simp)
 have ww : w.p.wf := wT ⟨w, false⟩ (by simp)
 have fx : (Lt.mk x false).few = true := List.all_eq_true.1 fT ⟨x, false⟩ (by simp)
 have fw : (Lt.mk w false).few = true := List.all_eq_true.1 fT ⟨w, false⟩ (by simp)
 have z2 : gi coefP [x.p.enc, .int .i64 3] = some (coefPo x.p 3).enc := gi_at wx
 have z3 : gi coefP [w.p.enc, .int .i64 3] = some (coefPo w.p 3).enc := gi_at ww
 have z4 : sHld [(Lt.mk x false).enc, .lst ([bd4 y].map Bd.enc)] = some (.tup [.bool (hldP (lookB [bd4 y]) ⟨x, false⟩).1, .bool (hldP (lookB [bd4 y]) ⟨x, false⟩).2]) := sHld_at wx fx (wf_bd4 y)
 have z5 : sHld [(Lt.mk w false).enc, .lst ([bd4 y].map Bd.enc)] = some (.tup [.bool (hldP (lookB [bd4 y]) ⟨w, false⟩).1, .bool (hldP (lookB [bd4 y]) ⟨w, false⟩).2]) := sHld_at ww fw (wf_bd4 y)
 unfold hldP at z4 z5
 dsimp only at z4 z5
 rw [hx] at z4
 rw [hw] at z5
 dsimp only at z4 z5
 generalize coefPo x.p 3 = C at z2 cx
 generalize coefPo w.p 3 = D at z3 cw
 obtain ⟨Cs, Cn, Cd⟩ := C
 obtain ⟨Ds, Dn, Dd⟩ := D
 dsimp only at cx cw
 subst cx
 subst cw
 generalize leA (-1) 1 c false = A at y1 z1
 generalize leA 1 (-2) (-d) false = B' at y2 z1
 have eb : bd4 y = ⟨4, ofQ (y : Rat)⟩ := rfl
 rw [eb] at z4 z5
 generalize ofQ ((1 : Int) : Rat) = Q1 at o1 m1
 generalize ofQ ((-1 : Int) : Rat) = Q2 at o2 m1
 generalize ofQ ((-c : Int) : Rat) = Q3 at o3 m1
 generalize ofQ (y : Rat) = Y at o4 z4 z5
 unfold pairLs at z1
 simp only [At.enc, Lt.enc, Po.enc, Fr.enc, Bd.enc, List.map_cons, List.map_nil] at y1 y2 z1 z2 z3 z4 z5 o1 o2 o3 o4 m1
 simp [lf6, q1, q2, q3, q4, q5, q6, o1, o2, o3, o4, y1, y2, z1, m1, x1, x2, fillS, freeze1, Tm23h_mu, Tm23h_fns]
 simp only [lf6_B0, vc_block]
 refine loop_ind (fun fr H => ∃ i : Nat, 3 ≤ i ∧ i ≤ 5 ∧ (∃ e0 e1 e2, H = [e0, e1, e2, ⟨4, 0, false, [.p (.agg [.int .i64 4, .bool Y.s, .lst (Y.n.map u64), .lst (Y.d.map u64)])], 67⟩]) ∧
   fr 0 = .p (.int .i64 c) ∧ fr 1 = .p (.int .i64 d) ∧ fr 2 = .p (.int .i64 y) ∧ (∃ u0 u1 u2, fr 11 = .p (.lst [u0, u1, u2, (Lt.mk x false).enc, (Lt.mk w false).enc])) ∧ fr 13 = .own 3 0 1 0 ∧ fr 14 = .p (.int .i64 i)) (fun fr _ => 5 - ivar (fr 14))
  ⟨3, by omega, by omega, ⟨_, _, _, rfl⟩, by simp, by simp, by simp, ⟨_, _, _, by simp [Lt.enc]; exact ⟨rfl, rfl, rfl⟩⟩, by simp, by simp⟩ ?_
 rintro fr H ⟨i, hi3, hi5, ⟨e0', e1', e2', rfl⟩, f0, f1', f2', ⟨u0, u1, u2, f11⟩, f13, f14⟩
 simp only [Lt.enc] at f11
 rcases (show i = 3 ∨ i = 4 ∨ i = 5 by omega) with rfl | rfl | rfl
 ·simp [f0, f1', f2', f11, f13, f14, z2, ivar, show IntKind.i64.wrap 4 = 4 from rfl, Tm23h_mu, Tm23h_fns]
  exact ⟨4, by omega, by omega, ⟨rfl, rfl⟩, rfl⟩
 ·simp [f0, f1', f2', f11, f13, f14, z3, ivar, show IntKind.i64.wrap 5 = 5 from rfl, Tm23h_mu, Tm23h_fns]
  exact ⟨5, by omega, by omega, ⟨rfl, rfl⟩, rfl⟩
 ·cases hb : decide (y + c < 2 * y + d)
  all_goals
   rw [hb] at z5
   simp [f0, f1', f2', f11, f13, f14, z4, z5, x3, x4, x5, hb, aw, freeze1, Tm23h_mu, Tm23h_fns]
end Go.Proofs.YtcfklmjgofknjaaGreat
