/-
  FmBounds answers true on all values. No conditions.
-/
import Derived.Test.YtcfklmjgofknjaaGreatFmI
set_option linter.unusedSimpArgs false
set_option linter.unnecessarySimpa false
set_option linter.unusedVariables false
set_option linter.constructorNameAsVariable false

/-
 law23: FmBounds answers true.
-/
namespace Go.Proofs.YtcfklmjgofknjaaGreat
open Go Go.Abs Go.Limbs
variable {base : Prot}
set_option maxRecDepth 20000
attribute [local irreducible] vc
attribute [local simp] pureS touchV freezeL fuel shiftV u64 au
def Tm23b : Tab := (((((Tab.none.with 12 (pureS sAwk)).with 28 (pureS sLe)).with 13 (pureS (j1v boundPL))).with 31 (pureS sQOf)).with 34 (pureS (f2 addP))).with 30 (pureS sHld)
theorem Tm23b_ok : TabOk Tryz.prog base Tm23b := Tab.with_ok (Tab.with_ok (Tab.with_ok (Tab.with_ok (Tab.with_ok (Tab.with_ok Tab.none_ok awake23_ok) le23_ok) fbound_ok) rofR_ok) rAdd_ok) hld23_ok
theorem Tm23b_mu (f : FuncId) (a : List AVal) (H : Heap) : Tm23b.mu f a H = none := (rfl)
theorem Tm23b_fns : Tm23b.fn 12 = (pureS sAwk) ∧ Tm23b.fn 28 = (pureS sLe) ∧ Tm23b.fn 13 = (pureS (j1v boundPL)) ∧ Tm23b.fn 31 = (pureS sQOf) ∧ Tm23b.fn 34 = (pureS (f2 addP)) ∧ Tm23b.fn 30 = (pureS sHld) := ⟨rfl, rfl, rfl, rfl, rfl, rfl⟩
def sLaw23b : List PVal → Option PVal
 | [.int .i64 _, .int .i64 _, .int .i64 _, .bool _, .bool _, .int .i64 _] => some (.bool true)
 | _ => none
def bd43 (y : Int) (x : Fr) : List Bd := [⟨4, ofQ (y : Rat)⟩, ⟨3, x⟩]
theorem wf_bd43 {y : Int} {x : Fr} (h : x.wf) : wfB (bd43 y x) := fun b hb => by
 simp only [bd43, List.mem_cons, List.not_mem_nil, or_false] at hb
 rcases hb with rfl | rfl
 ·exact wf_ofQ _
 ·exact h
set_option maxHeartbeats 8000000 in
theorem fmBounds_ok : FnOk Tryz.prog base 8 (pureS sLaw23b) := by
 refine pure_of_vc hmix Tm23b_ok globNone low8 fun args z hs hf => ?_
 unfold sLaw23b at hs
 split at hs
 case h_2 => cases hs
 rename_i c d k st nt y
 cases hs
 refine ⟨by simp [lf8], ?_⟩
 have aw := sAwk_nil
 by_cases q1 : c = 0
 ·simp [lf8, q1, aw, fillS, Tm23b_mu, Tm23b_fns]
 have n1 : ((c : Int) == 0) = false := by rw [← Bool.not_eq_true, beq_iff_eq]; exact q1
 by_cases q2 : c < -10
 ·simp [lf8, n1, q2, aw, fillS, Tm23b_mu, Tm23b_fns]
 by_cases q3 : 10 < c
 ·simp [lf8, n1, q2, q3, aw, fillS, Tm23b_mu, Tm23b_fns]
 by_cases q4 : d < -20
 ·simp [lf8, n1, q2, q3, q4, aw, fillS, Tm23b_mu, Tm23b_fns]
 by_cases q5 : 20 < d
 ·simp [lf8, n1, q2, q3, q4, q5, aw, fillS, Tm23b_mu, Tm23b_fns]
 by_cases q6 : k < -50
 ·simp [lf8, n1, q2, q3, q4, q5, q6, aw, fillS, Tm23b_mu, Tm23b_fns]
 by_cases q7 : 50 < k
 ·simp [lf8, n1, q2, q3, q4, q5, q6, q7, aw, fillS, Tm23b_mu, Tm23b_fns]
 by_cases q8 : y < -50
 ·simp [lf8, n1, q2, q3, q4, q5, q6, q7, q8, aw, fillS, Tm23b_mu, Tm23b_fns]
 by_cases q9 : 50 < y
 ·simp [lf8, n1, q2, q3, q4, q5, q6, q7, q8, q9, aw, fillS, Tm23b_mu, Tm23b_fns]
 have dy := mul_small (a := d) (b := y) (m := 20) (n := 50) (by omega) (by omega)
 have x1 : IntKind.i64.wrap (d * y) = d * y := wrap_small (by omega)
 have x2 : IntKind.i64.wrap (d * y + k) = d * y + k := wrap_small (by omega)
 have x3 : IntKind.i64.wrap (-(d * y + k)) = -(d * y + k) := wrap_small (by omega)
 have sX : Sm 1 (Rat.divInt (-(d * y + k)) c) := by
  have hB : (1000001 : Nat) ≤ B := by decide
  have l1 : ∀ {w : Int}, -1000000 ≤ w ∧ w ≤ 1000000 → len w.natAbs ≤ 1 := fun h => len_le (by rw [Nat.pow_one]; omega)
  exact Sm_divInt (l1 (by omega)) (l1 (by omega)) (by decide)
 have y1 : sLe [.int .i64 c, .int .i64 d, .int .i64 k, .bool st] = some (Lt.mk (leA c d k st) false).enc := sLe_at (by omega) (by omega) (by omega)
 have o1 := ofI (n := 1) (by omega)
 have o4 := ofI (n := y) (by omega)
 have o3 : sQOf [.int .i64 (-(d * y + k)), .int .i64 c] = some (ofQ (Rat.divInt (-(d * y + k)) c)).enc := sQOf_at (by omega) (by omega)
 generalize hX : Rat.divInt (-(d * y + k)) c = X at o3 sX
 have a1 : f2 addP [(ofQ X).enc, (ofQ ((1 : Int) : Rat)).enc] = some (.tup [(ofQ (X + 1)).enc, .int .i64 0]) := by
  rw [f2_at (wf_ofQ _) (wf_ofQ _)]
  unfold addP
  have e1 : ((1 : Int) : Rat) = 1 := rfl
  have s1 : Sm 1 (1 : Rat) := by decide +kernel
  rw [e1, addF_num (Sm_mono sX (by decide)) (Sm_mono s1 (by decide)), heldQ_ok (Sm_mono (Sm_add sX s1) (by decide))]
  rfl
 obtain ⟨b1, b2, b3⟩ := bounds_law (c := c) (d := d) (k := k) (y := y) (st := st) (nt := nt) (lk := lookB (bd43 y (ofQ X))) (lk' := lookB (bd43 y (ofQ (X + 1)))) q1 (by omega) (by omega) (by omega) (by omega) rfl (by rw [hX]; rfl) rfl (by rw [hX]; rfl)
 have wA := wf_leA c d k st
 have lA := lit_leA c d k st
 generalize leA c d k st = A at y1 b1 b2 b3 wA lA
 have z1 : j1v boundPL [(Lt.mk A nt).enc, .int .i64 3] = some (tripB (boundL ⟨A, nt⟩ 3)) := j1v_at wA (lit_mono lA (by decide))
 have z2 : sHld [(Lt.mk A nt).enc, .lst ((bd43 y (ofQ X)).map Bd.enc)] = some (.tup [.bool (hldP (lookB (bd43 y (ofQ X))) ⟨A, nt⟩).1, .bool (hldP (lookB (bd43 y (ofQ X))) ⟨A, nt⟩).2]) := sHld_at wA (lit_mono lA (by decide)) (wf_bd43 (wf_ofQ _))
 have z3 : sHld [(Lt.mk A nt).enc, .lst ((bd43 y (ofQ (X + 1))).map Bd.enc)] = some (.tup [.bool (hldP (lookB (bd43 y (ofQ (X + 1)))) ⟨A, nt⟩).1, .bool (hldP (lookB (bd43 y (ofQ (X + 1)))) ⟨A, nt⟩).2]) := sHld_at wA (lit_mono lA (by decide)) (wf_bd43 (wf_ofQ _))
 rw [b1] at z1
 unfold hldP at z2 z3
 dsimp only at z2 z3
 rw [b2] at z2
 rw [b3] at z3
 unfold tripB at z1
 unfold bd43 at z2 z3
 generalize decide (c < 0) = bc at z1 z3
 clear b1 b2 b3 hX
 generalize ofQ X = FX at o3 a1 z2
 generalize ofQ (X + 1) = FU at a1 z3
 generalize ofQ ((1 : Int) : Rat) = F1 at o1 a1
 generalize ofQ (y : Rat) = Y at o4 z2 z3
 simp only [At.enc, Lt.enc, Po.enc, Fr.enc, Bd.enc, List.map_cons, List.map_nil] at y1 z1 z2 z3 o1 o3 o4 a1
 simp [lf8, n1, q2, q3, q4, q5, q6, q7, q8, q9, y1, z1, o3, x1, x2, x3, fillS, Tm23b_mu, Tm23b_fns]
 rw [vc_regionW]
 refine ⟨[], ?_⟩
 simp [o1, a1, fillS, Tm23b_mu, Tm23b_fns]
 refine ⟨keepT rfl, ?_⟩
 rw [vc_regionW]
 refine ⟨[], ?_⟩
 simp [o4, z2, fillS, freeze1, Tm23b_mu, Tm23b_fns]
 refine ⟨keepT rfl, ?_⟩
 rw [vc_regionW]
 refine ⟨[], ?_⟩
 cases bc <;> cases st <;> cases nt
 all_goals
  simp at z1 z2 z3
  simp [o4, z2, z3, aw, fillS, freeze1, Tm23b_mu, Tm23b_fns]
  exact keepT rfl
end Go.Proofs.YtcfklmjgofknjaaGreat
