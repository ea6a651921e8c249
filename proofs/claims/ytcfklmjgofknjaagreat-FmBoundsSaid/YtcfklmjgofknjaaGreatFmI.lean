/-
  FmFalse answers true on all values. No conditions.
-/
import Derived.Test.YtcfklmjgofknjaaGreatFmG
set_option linter.unusedSimpArgs false
set_option linter.unnecessarySimpa false
set_option linter.unusedVariables false
set_option linter.constructorNameAsVariable false

/-
 law23: FmFalse and FmHole answer true.
-/
namespace Go.Proofs.YtcfklmjgofknjaaGreat
open Go Go.Abs Go.Limbs
variable {base : Prot}
set_option maxRecDepth 20000
attribute [local irreducible] vc
attribute [local simp] pureS touchV freezeL fuel shiftV u64 au
theorem wrap_small {n : Int} (h : -1000000000 ≤ n ∧ n ≤ 1000000000) : IntKind.i64.wrap n = n := IntWalk.i64_in _ (by omega)
theorem mul_small {a b m n : Int} (ha : -m ≤ a ∧ a ≤ m) (hb : -n ≤ b ∧ b ≤ n) : -(m * n) ≤ a * b ∧ a * b ≤ m * n := by
 have h1 : (a * b).natAbs ≤ m.natAbs * n.natAbs := by rw [Int.natAbs_mul]; exact Nat.mul_le_mul (by omega) (by omega)
 have h2 : m * n = ((m.natAbs * n.natAbs : Nat) : Int) := by rw [Int.natCast_mul]; congr 1 <;> omega
 omega
theorem wf_leA (c d k : Int) (st : Bool) : (leA c d k st).p.wf := wf_makeAt
theorem lit_leA (c d k : Int) (st : Bool) : (leA c d k st).p.lit 2 = true := by
 refine lit_make (decide_eq_true ?_)
 show ((lq c d k).ps.map ofA).length ≤ 2
 unfold lq
 by_cases h1 : c = 0 <;> by_cases h2 : d = 0 <;> simp [h1, h2]
def bd4 (y : Int) : Bd := ⟨4, ofQ (y : Rat)⟩
theorem wf_bd4 (y : Int) : wfB [bd4 y] := fun b hb => by rw [List.mem_singleton] at hb; subst hb; exact wf_ofQ _
def Tm23f : Tab := (((((Tab.none.with 12 (pureS sAwk)).with 28 (pureS sLe)).with 15 (pureS (j2v twoP))).with 29 (pureS (gi coefP))).with 31 (pureS sQOf)).with 30 (pureS sHld)
theorem Tm23f_ok : TabOk Tryz.prog base Tm23f := Tab.with_ok (Tab.with_ok (Tab.with_ok (Tab.with_ok (Tab.with_ok (Tab.with_ok Tab.none_ok awake23_ok) le23_ok) ftwo_ok) rcoef_ok) rofR_ok) hld23_ok
theorem Tm23f_mu (f : FuncId) (a : List AVal) (H : Heap) : Tm23f.mu f a H = none := (rfl)
theorem Tm23f_fns : Tm23f.fn 12 = (pureS sAwk) ∧ Tm23f.fn 28 = (pureS sLe) ∧ Tm23f.fn 15 = (pureS (j2v twoP)) ∧ Tm23f.fn 29 = (pureS (gi coefP)) ∧ Tm23f.fn 31 = (pureS sQOf) ∧ Tm23f.fn 30 = (pureS sHld) := ⟨rfl, rfl, rfl, rfl, rfl, rfl⟩
def sLaw23f : List PVal → Option PVal
 | [.int .i64 _, .int .i64 _, .int .i64 _, .bool _, .int .i64 _, .int .i64 _, .int .i64 _, .bool _, .int .i64 _] => some (.bool true)
 | _ => none
set_option maxHeartbeats 8000000 in
theorem fmFalse_ok : FnOk Tryz.prog base 5 (pureS sLaw23f) := by
 refine pure_of_vc hmix Tm23f_ok globNone low5 fun args z hs hf => ?_
 unfold sLaw23f at hs
 split at hs
 case h_2 => cases hs
 rename_i c d k st m n o too y
 cases hs
 refine ⟨by simp [lf5], ?_⟩
 have aw := sAwk_nil
 by_cases q1 : c < 1
 ·simp [lf5, q1, aw, fillS, Tm23f_mu, Tm23f_fns]
 by_cases q2 : 20 < c
 ·simp [lf5, q1, q2, aw, fillS, Tm23f_mu, Tm23f_fns]
 by_cases q3 : m < 1
 ·simp [lf5, q1, q2, q3, aw, fillS, Tm23f_mu, Tm23f_fns]
 by_cases q4 : 20 < m
 ·simp [lf5, q1, q2, q3, q4, aw, fillS, Tm23f_mu, Tm23f_fns]
 by_cases q5 : d < -20
 ·simp [lf5, q1, q2, q3, q4, q5, aw, fillS, Tm23f_mu, Tm23f_fns]
 by_cases q6 : 20 < d
 ·simp [lf5, q1, q2, q3, q4, q5, q6, aw, fillS, Tm23f_mu, Tm23f_fns]
 by_cases q7 : n < -20
 ·simp [lf5, q1, q2, q3, q4, q5, q6, q7, aw, fillS, Tm23f_mu, Tm23f_fns]
 by_cases q8 : 20 < n
 ·simp [lf5, q1, q2, q3, q4, q5, q6, q7, q8, aw, fillS, Tm23f_mu, Tm23f_fns]
 by_cases q9 : k < -100
 ·simp [lf5, q1, q2, q3, q4, q5, q6, q7, q8, q9, aw, fillS, Tm23f_mu, Tm23f_fns]
 by_cases q10 : 100 < k
 ·simp [lf5, q1, q2, q3, q4, q5, q6, q7, q8, q9, q10, aw, fillS, Tm23f_mu, Tm23f_fns]
 by_cases q11 : o < -100
 ·simp [lf5, q1, q2, q3, q4, q5, q6, q7, q8, q9, q10, q11, aw, fillS, Tm23f_mu, Tm23f_fns]
 by_cases q12 : 100 < o
 ·simp [lf5, q1, q2, q3, q4, q5, q6, q7, q8, q9, q10, q11, q12, aw, fillS, Tm23f_mu, Tm23f_fns]
 by_cases q13 : y < -50
 ·simp [lf5, q1, q2, q3, q4, q5, q6, q7, q8, q9, q10, q11, q12, q13, aw, fillS, Tm23f_mu, Tm23f_fns]
 by_cases q14 : 50 < y
 ·simp [lf5, q1, q2, q3, q4, q5, q6, q7, q8, q9, q10, q11, q12, q13, q14, aw, fillS, Tm23f_mu, Tm23f_fns]
 have dy := mul_small (a := d) (b := y) (m := 20) (n := 50) (by omega) (by omega)
 have ny := mul_small (a := n) (b := y) (m := 20) (n := 50) (by omega) (by omega)
 have dk : -1100 ≤ d * y + k ∧ d * y + k ≤ 1100 := by omega
 have no : -1100 ≤ n * y + o ∧ n * y + o ≤ 1100 := by omega
 have dkm := mul_small (a := -(d * y + k)) (b := m) (m := 1100) (n := 20) (by omega) (by omega)
 have noc := mul_small (a := n * y + o) (b := c) (m := 1100) (n := 20) (by omega) (by omega)
 have x1 : IntKind.i64.wrap (d * y) = d * y := wrap_small (by omega)
 have x2 : IntKind.i64.wrap (d * y + k) = d * y + k := wrap_small (by omega)
 have x3 : IntKind.i64.wrap (-(d * y + k)) = -(d * y + k) := wrap_small (by omega)
 have x4 : IntKind.i64.wrap (-(d * y + k) * m) = -(d * y + k) * m := wrap_small (by omega)
 have x5 : IntKind.i64.wrap (n * y) = n * y := wrap_small (by omega)
 have x6 : IntKind.i64.wrap (n * y + o) = n * y + o := wrap_small (by omega)
 have x7 : IntKind.i64.wrap ((n * y + o) * c) = (n * y + o) * c := wrap_small (by omega)
 have x8 : IntKind.i64.wrap (-m) = -m := wrap_small (by omega)
 have y1 : sLe [.int .i64 c, .int .i64 d, .int .i64 k, .bool st] = some (Lt.mk (leA c d k st) false).enc := sLe_at (by omega) (by omega) (by omega)
 have y2 : sLe [.int .i64 (-m), .int .i64 n, .int .i64 o, .bool too] = some (Lt.mk (leA (-m) n o too) false).enc := sLe_at (by omega) (by omega) (by omega)
 have hl : lookB [bd4 y] 4 = ofQ (y : Rat) := rfl
 obtain ⟨x, h1', h2', h3', h4'⟩ := false_law (c := c) (d := d) (k := k) (m := m) (n := n) (o := o) (y := y) (st := st) (too := too) (lk := lookB [bd4 y]) (by omega) (by omega) (by omega) (by omega) (by omega) (by omega) (by omega) hl
 have z1 : j2v twoP [(Lt.mk (leA c d k st) false).enc, (Lt.mk (leA (-m) n o too) false).enc, .int .i64 3] = some (pairLs (twoL ⟨leA c d k st, false⟩ ⟨leA (-m) n o too, false⟩ 3)) := j2v_at (wf_leA _ _ _ _) (lit_mono (lit_leA _ _ _ _) (by decide)) (wf_leA _ _ _ _) (lit_mono (lit_leA _ _ _ _) (by decide))
 have wT := wf_twoL (a := ⟨leA c d k st, false⟩) (b := ⟨leA (-m) n o too, false⟩) (wf_leA _ _ _ _) (wf_leA _ _ _ _) 3
 have fT := few_twoL (a := ⟨leA c d k st, false⟩) (b := ⟨leA (-m) n o too, false⟩) (lit_mono (lit_leA _ _ _ _) (by decide)) (lit_mono (lit_leA _ _ _ _) (by decide)) 3
 rw [h1'] at z1 wT fT
 have wx : x.p.wf := wT ⟨x, false⟩ (by simp)
 have fx : (Lt.mk x false).few = true := List.all_eq_true.1 fT ⟨x, false⟩ (by simp)
 have z2 : gi coefP [x.p.enc, .int .i64 3] = some (coefPo x.p 3).enc := gi_at wx
 have z3 : sHld [(Lt.mk x false).enc, .lst ([bd4 y].map Bd.enc)] = some (.tup [.bool (hldP (lookB [bd4 y]) ⟨x, false⟩).1, .bool (hldP (lookB [bd4 y]) ⟨x, false⟩).2]) := sHld_at wx fx (wf_bd4 y)
 have hh : hldP (lookB [bd4 y]) ⟨x, false⟩ = (!(decide ((n * y + o) * c > -(d * y + k) * m) || (decide ((n * y + o) * c = -(d * y + k) * m) && (st || too))), true) := by
  unfold hldP
  dsimp only
  rw [h3', h4']
  simp
 rw [hh] at z3
 have o1 := ofI (n := y) (by omega)
 obtain ⟨U, hU⟩ : ∃ U, U = -(d * y + k) * m := ⟨_, rfl⟩
 obtain ⟨V, hV⟩ : ∃ V, V = (n * y + o) * c := ⟨_, rfl⟩
 rw [← hU, ← hV] at z3
 have x4 := x4.trans hU.symm
 have x7 := x7.trans hV.symm
 generalize coefPo x.p 3 = C at z2 h2'
 obtain ⟨Cs, Cn, Cd⟩ := C
 dsimp only at h2'
 subst h2'
 generalize leA c d k st = A at y1 z1
 generalize leA (-m) n o too = B' at y2 z1
 have eb : bd4 y = ⟨4, ofQ (y : Rat)⟩ := rfl
 rw [eb] at z3
 generalize ofQ (y : Rat) = Y at o1 z3
 unfold pairLs at z1
 simp only [At.enc, Lt.enc, Po.enc, Fr.enc, Bd.enc, List.map_cons, List.map_nil] at y1 y2 z1 z2 z3 o1
 rcases (show U < V ∨ V = U ∨ V < U by omega) with g | g | g
 ·have n1 : (V == U) = false := by simp; omega
  have n2 : decide (U < V) = true := by simpa using g
  have n3 : decide (V > U) = true := by simpa using g
  rw [n3] at z3
  cases st <;> cases too
  all_goals
   simp [lf5, q1, q2, q3, q4, q5, q6, q7, q8, q9, q10, q11, q12, q13, q14, n1, n2, n3, y1, y2, z1, z2, x1, x2, x3, x4, x5, x6, x7, x8, fillS, Tm23f_mu, Tm23f_fns]
   rw [vc_regionW]
   refine ⟨[], ?_⟩
   simp [o1, z3, aw, fillS, Tm23f_mu, Tm23f_fns]
   all_goals exact keepT rfl
 ·have n1 : (V == U) = true := by simpa using g
  have n2 : decide (U < V) = false := by simp; omega
  have n3 : decide (V > U) = false := by simp; omega
  rw [n3, decide_eq_true g] at z3
  cases st <;> cases too
  all_goals
   simp [lf5, q1, q2, q3, q4, q5, q6, q7, q8, q9, q10, q11, q12, q13, q14, n1, n2, n3, y1, y2, z1, z2, x1, x2, x3, x4, x5, x6, x7, x8, fillS, Tm23f_mu, Tm23f_fns]
   rw [vc_regionW]
   refine ⟨[], ?_⟩
   simp [o1, z3, aw, fillS, Tm23f_mu, Tm23f_fns]
   all_goals exact keepT rfl
 ·have n1 : (V == U) = false := by simp; omega
  have n2 : decide (U < V) = false := by simp; omega
  have n3 : decide (V > U) = false := by simp; omega
  rw [n3, decide_eq_false (show ¬ V = U by omega)] at z3
  cases st <;> cases too
  all_goals
   simp [lf5, q1, q2, q3, q4, q5, q6, q7, q8, q9, q10, q11, q12, q13, q14, n1, n2, n3, y1, y2, z1, z2, x1, x2, x3, x4, x5, x6, x7, x8, fillS, Tm23f_mu, Tm23f_fns]
   rw [vc_regionW]
   refine ⟨[], ?_⟩
   simp [o1, z3, aw, fillS, Tm23f_mu, Tm23f_fns]
   all_goals exact keepT rfl
end Go.Proofs.YtcfklmjgofknjaaGreat
