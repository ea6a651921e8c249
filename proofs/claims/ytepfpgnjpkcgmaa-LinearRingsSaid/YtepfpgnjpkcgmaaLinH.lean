/-
  law8's awake; what sums give; LinearRings answers true on all values. No conditions.
-/
import Derived.Test.YtepfpgnjpkcgmaaLinF
import Derived.Test.YtepfpgnjpkcgmaaLinG
set_option linter.unusedSimpArgs false
set_option linter.unnecessarySimpa false
set_option linter.unusedVariables false
set_option linter.constructorNameAsVariable false

/-
  law8: awake; LinearSums answers true.
-/
namespace Go.Proofs.Ytepfpgnjpkcgmaa
open Go Go.Abs Go.Limbs
variable {base : Prot}
set_option maxRecDepth 20000
attribute [local irreducible] vc
attribute [local simp] pureS touchV freezeL fuel shiftV u64 au
def pw : Qo := ⟨[(2, 1), (-1, 4)], 3⟩
theorem pw_is : pw.Is 1 := by
  refine ⟨⟨by decide, by decide +kernel, by decide, by decide +kernel, trivial⟩, fun x hx => ?_, by decide +kernel⟩
  simp only [pw, List.mem_cons, List.not_mem_nil, or_false] at hx
  rcases hx with rfl | rfl <;> decide +kernel
theorem qt_lit {p q r : Rat} (hp : Sm 64 p) (hq : Sm 64 q) (h0 : q ≠ 0) (hr : Sm 64 r) (e : p / q = r) : quoF (ofQ p) (ofQ q) = (ofQ r, 0) := by
  rw [quoF_num hp hq h0, e, heldQ_ok hr]
theorem aw8_solve : solvePo (ofP pw) 1 = (ofP ⟨[(1/2, 4)], -3/2⟩, 0) := by
  have h1 : findF 1 (ofP pw).ps = some (ofQ 2) := rfl
  have h2 : quoF (ofQ (-1)) (ofQ 2) = (ofQ (-1/2), 0) := qt_lit (by decide +kernel) (by decide +kernel) (by decide +kernel) (by decide +kernel) (by decide +kernel)
  have h3 : withoutPo (ofP pw) 1 = ofP ⟨[(-1, 4)], 3⟩ := rfl
  have h4 : (⟨[(-1, 4)], 3⟩ : Qo).Is 1 := ⟨⟨by decide, by decide +kernel, trivial⟩, fun x hx => (by
    simp only [List.mem_cons, List.not_mem_nil, or_false] at hx
    subst hx; decide +kernel), by decide +kernel⟩
  unfold solvePo
  rw [h1, ok_ofP (pw_is.mono (by decide))]
  simp only [if_true, h2, h3]
  rw [scalePo_of h4 (k := -1/2) (m := 1) (by decide +kernel) (by decide)]
  unfold scaleQ mulQ
  rw [if_neg (by decide +kernel)]
  simp only [List.map_cons, List.map_nil]
  rw [show (-1 : Rat) * (-1/2) = 1/2 by decide +kernel, show (3 : Rat) * (-1/2) = -3/2 by decide +kernel]
theorem aw8_none : solvePo (ofP pw) 2 = (zPo, 1) := rfl
theorem aw8_add : addPo (ofP pw) (ofP ⟨[(1, 4)], 0⟩) = (ofP ⟨[(2, 1)], 3⟩, 0) := by
  have h4 : (⟨[(1, 4)], 0⟩ : Qo).Is 1 := ⟨⟨by decide, by decide +kernel, trivial⟩, fun x hx => (by
    simp only [List.mem_cons, List.not_mem_nil, or_false] at hx
    subst hx; decide +kernel), by decide +kernel⟩
  rw [addPo_of pw_is h4 (by decide)]
  unfold addQ pw
  simp only
  rw [mergeQ_lt (by decide), mergeQ_eq (x := (-1, 4)) (y := (1, 4)) rfl, if_pos (by decide +kernel), mergeQ_nil, show (3 : Rat) + 0 = 3 by decide +kernel]
theorem aw8_scale : scalePo (ofP pw) (ofQ 0) = (ofP ⟨[], 0⟩, 0) := by
  rw [scalePo_of pw_is (k := 0) (m := 1) (by decide +kernel) (by decide)]
  unfold scaleQ
  rw [if_pos rfl, Rat.mul_zero]
theorem mul_lit {p q r : Rat} (hp : Sm 64 p) (hq : Sm 64 q) (hr : Sm 64 r) (e : p * q = r) : mulF (ofQ p) (ofQ q) = (ofQ r, 0) := by rw [mulF_num hp hq, e, heldQ_ok hr]
theorem add_lit {p q r : Rat} (hp : Sm 64 p) (hq : Sm 64 q) (hr : Sm 64 r) (e : p + q = r) : addF (ofQ p) (ofQ q) = (ofQ r, 0) := by rw [addF_num hp hq, e, heldQ_ok hr]
theorem aw8_value : valuePo (fun i => ofQ (Rat.divInt i 1)) (ofP pw) = (ofQ 1, 0) := by
  unfold valuePo
  rw [ok_ofP (pw_is.mono (by decide))]
  have e1 : Rat.divInt 1 1 = 1 := by decide +kernel
  have e4 : Rat.divInt 4 1 = 4 := by decide +kernel
  have ha : ((ofP pw).ps.all fun x => (ofQ (Rat.divInt x.t 1)).ok) = true := by
    show ((ofQ (Rat.divInt 1 1)).ok && ((ofQ (Rat.divInt 4 1)).ok && true)) = true
    rw [e1, e4, ok_ofQ (by decide +kernel : Sm 64 (1 : Rat)), ok_ofQ (by decide +kernel : Sm 64 (4 : Rat))]
    rfl
  rw [ha]
  simp only [Bool.and_self, if_true]
  show sumF _ [⟨ofQ 2, 1⟩, ⟨ofQ (-1), 4⟩] (ofQ 3) = _
  have m1 : mulF (ofQ 2) (ofQ 1) = (ofQ 2, 0) := mul_lit (by decide +kernel) (by decide +kernel) (by decide +kernel) (by decide +kernel)
  have m2 : mulF (ofQ (-1)) (ofQ 4) = (ofQ (-4), 0) := mul_lit (by decide +kernel) (by decide +kernel) (by decide +kernel) (by decide +kernel)
  have a1 : addF (ofQ 3) (ofQ 2) = (ofQ 5, 0) := add_lit (by decide +kernel) (by decide +kernel) (by decide +kernel) (by decide +kernel)
  have a2 : addF (ofQ 5) (ofQ (-4)) = (ofQ 1, 0) := add_lit (by decide +kernel) (by decide +kernel) (by decide +kernel) (by decide +kernel)
  simp only [sumF, e1, e4, m1, m2, a1, a2, if_true]
theorem enc_ofP (p : Qo) : (ofP p).enc = .agg [.lst (p.ps.map fun x => .agg [.bool (ofQ x.1).s, .lst ((ofQ x.1).n.map u64), .lst ((ofQ x.1).d.map u64), .int .i64 x.2]), .bool (ofQ p.c).s, .lst ((ofQ p.c).n.map u64), .lst ((ofQ p.c).d.map u64)] := by
  unfold ofP Po.enc
  simp only [List.map_map]
  rfl
theorem ok_zPo : zPo.ok = false := by unfold Po.ok zPo; rw [ok_zF]; rfl
def Taw8 : Tab := ((((((((Tab.none.with 11 (pureS sQOf)).with 22 (pureS (f2 sameP))).with 19 (pureS (gis solveP))).with 9 (pureS (g2s addPP))).with 10 (pureS (gks scaleP))).with 20 (pureS (sValue L8a))).with 13 (pureS (g1 okPo))).with 12 (pureS (g2 samePo))).with 23 (pureS (gi coefP))
theorem Taw8_ok : TabOk Try.prog base Taw8 := Tab.with_ok (Tab.with_ok (Tab.with_ok (Tab.with_ok (Tab.with_ok (Tab.with_ok (Tab.with_ok (Tab.with_ok (Tab.with_ok Tab.none_ok rofR_ok) rsame_ok) solve_ok) ladd_ok) scale_ok) value8a_ok) lvalid_ok) lsamep_ok) lcoef_ok
theorem Taw8_mu (f : FuncId) (a : List AVal) (H : Heap) : Taw8.mu f a H = none := (rfl)
theorem Taw8_fns : Taw8.fn 11 = (pureS sQOf) ∧ Taw8.fn 22 = (pureS (f2 sameP)) ∧ Taw8.fn 19 = (pureS (gis solveP)) ∧ Taw8.fn 9 = (pureS (g2s addPP)) ∧ Taw8.fn 10 = (pureS (gks scaleP)) ∧ Taw8.fn 20 = (pureS (sValue L8a)) ∧ Taw8.fn 13 = (pureS (g1 okPo)) ∧ Taw8.fn 12 = (pureS (g2 samePo)) ∧ Taw8.fn 23 = (pureS (gi coefP)) := ⟨rfl, rfl, rfl, rfl, rfl, rfl, rfl, rfl, rfl⟩
def sAwk : List PVal → Option PVal
  | [] => some (.bool true)
  | _ => none
theorem sAwk_nil : sAwk [] = some (.bool true) := rfl
theorem oL {n d : Int} {q : Rat} (h : (-1000 ≤ n ∧ n ≤ 1000) ∧ (-1000 ≤ d ∧ d ≤ 1000)) (e : Rat.divInt n d = q) : sQOf [.int .i64 n, .int .i64 d] = some (ofQ q).enc := by rw [ofR h, e]
theorem samePo_self {p : Po} (h : p.wf) : g2 samePo [p.enc, p.enc] = some (.bool true) := by rw [g2_at h h]; unfold samePo; rw [decide_eq_true rfl]
set_option maxHeartbeats 1000000 in
theorem awake8_ok : FnOk Try.prog base 8 (pureS sAwk) := by
  refine pure_of_vcB hmix Taw8_ok globNone low8 fun args z hs hf => ?_
  unfold sAwk at hs
  split at hs
  case h_2 => cases hs
  cases hs
  refine ⟨by simp [lf8], ?_⟩
  have o2 := oL (n := 2) (d := 1) (q := 2) (by decide) (by decide +kernel)
  have om1 := oL (n := -1) (d := 1) (q := -1) (by decide) (by decide +kernel)
  have o3 := oL (n := 3) (d := 1) (q := 3) (by decide) (by decide +kernel)
  have o1 := oL (n := 1) (d := 1) (q := 1) (by decide) (by decide +kernel)
  have o0 := oL (n := 0) (d := 1) (q := 0) (by decide) (by decide +kernel)
  have o12 := oL (n := 1) (d := 2) (q := 1/2) (by decide) (by decide +kernel)
  have om32 := oL (n := -3) (d := 2) (q := -3/2) (by decide) (by decide +kernel)
  have fw : (ofP pw).few = true := rfl
  have S1 : gis solveP [(ofP pw).enc, .int .i64 1] = some (.tup [(ofP ⟨[(1/2, 4)], -3/2⟩).enc, .int .i64 0]) := by rw [gis_at (wf_ofP _) fw]; unfold solveP pairPo; rw [aw8_solve]; rfl
  have S2 : gis solveP [(ofP pw).enc, .int .i64 2] = some (.tup [zPo.enc, .int .i64 1]) := by rw [gis_at (wf_ofP _) fw]; unfold solveP pairPo; rw [aw8_none]; rfl
  have A : g2s addPP [(ofP pw).enc, (ofP ⟨[(1, 4)], 0⟩).enc] = some (.tup [(ofP ⟨[(2, 1)], 3⟩).enc, .int .i64 0]) := by rw [g2s_at (wf_ofP _) (wf_ofP _) fw rfl]; unfold addPP pairPo; rw [aw8_add]; rfl
  have K : gks scaleP [(ofP pw).enc, (ofQ 0).enc] = some (.tup [(ofP ⟨[], 0⟩).enc, .int .i64 0]) := by rw [gks_at (wf_ofP _) (wf_ofQ _) fw]; unfold scaleP pairPo; rw [aw8_scale]; rfl
  have V : sValue L8a [(ofP pw).enc, .clo 21 []] = some (.tup [(ofQ 1).enc, .int .i64 0]) := by rw [sValue_at (lk := fun i => ofQ (Rat.divInt i 1)) (wf_ofP _) fw rfl]; unfold pairF; rw [aw8_value]; rfl
  have G1 : g1 okPo [(ofP pw).enc] = some (.bool true) := by rw [g1_at (wf_ofP _)]; unfold okPo; rw [ok_ofP (pw_is.mono (by decide))]
  have G2 : g1 okPo [zPo.enc] = some (.bool false) := by rw [g1_at wf_zPo]; unfold okPo; rw [ok_zPo]
  have E := samePo_self (wf_ofP pw)
  have C : gi coefP [(ofP pw).enc, .int .i64 4] = some (ofQ (-1)).enc := by
    rw [gi_at (wf_ofP _)]
    have h1 : findF 4 (ofP pw).ps = some (ofQ (-1)) := rfl
    unfold coefP coefPo
    rw [h1, ok_ofP (pw_is.mono (by decide))]
    rfl
  have E1 := sameP_self (1/2)
  have E2 := sameP_self (-3/2)
  have E3 := sameP_self 1
  have E4 := sameP_self (-1)
  have ez := ofQ_zero
  simp only [enc_ofP] at S1 S2 A K V G1 E C
  unfold pw at S1 S2 A K V G1 E C
  simp only [List.map_cons, List.map_nil] at S1 S2 A K V G1 E C
  obtain ⟨x2, e2⟩ : ∃ x, x = ofQ 2 := ⟨_, rfl⟩
  obtain ⟨xm1, em1⟩ : ∃ x, x = ofQ (-1) := ⟨_, rfl⟩
  obtain ⟨x3, e3⟩ : ∃ x, x = ofQ 3 := ⟨_, rfl⟩
  obtain ⟨x1, e1⟩ : ∃ x, x = ofQ 1 := ⟨_, rfl⟩
  obtain ⟨x0, e0⟩ : ∃ x, x = ofQ 0 := ⟨_, rfl⟩
  obtain ⟨x12, e12⟩ : ∃ x, x = ofQ (1/2) := ⟨_, rfl⟩
  obtain ⟨xm32, em32⟩ : ∃ x, x = ofQ (-3/2) := ⟨_, rfl⟩
  simp only [← e2, ← em1, ← e3, ← e1, ← e0, ← e12, ← em32] at o2 om1 o3 o1 o0 o12 om32 S1 S2 A K V G1 G2 E C E1 E2 E3 E4
  simp only [Fr.enc, Po.enc, zPo, zF, List.map_nil] at o2 om1 o3 o1 o0 o12 om32 S1 S2 A K V G1 G2 E C E1 E2 E3 E4
  clear e2 em1 e3 e1 e0 e12 em32 ez
  simp [lf8, o2, om1, o3, S1, fillS, freeze1, Taw8_mu, Taw8_fns]
  rw [vc_regionN]
  refine ⟨[], ?_⟩
  simp [o1, o0, A, fillS, freeze1, Taw8_mu, Taw8_fns]
  refine ⟨keep3, ⟨keep3, fun M hM => ?_⟩, ?_⟩
  · obtain ⟨m, rfl⟩ := List.length_eq_one_iff.1 hM
    simp [A, freeze1, Taw8_mu, Taw8_fns]
  · simp [V, S2, fillS, freeze1, Taw8_mu, Taw8_fns]
    rw [vc_regionN]
    refine ⟨[], ?_⟩
    simp [o0, o1, o12, om32, om1, E1, E2, E3, E4, G1, G2, E, C, K, fillS, freeze1, Taw8_mu, Taw8_fns]
end Go.Proofs.Ytepfpgnjpkcgmaa

/-
  law8: LinearSums answers true.
-/
namespace Go.Proofs.Ytepfpgnjpkcgmaa
open Go Go.Abs Go.Limbs
variable {base : Prot}
set_option maxRecDepth 20000
attribute [local irreducible] vc
attribute [local simp] pureS touchV freezeL fuel shiftV u64 au
theorem keepT {l m : Heap} {n : Nat} (h : l.take n = m.take n) (k : Nat) (hk : k < n) : l[k]? = m[k]? := by
  have h1 : (l.take n)[k]? = (m.take n)[k]? := by rw [h]
  rwa [List.getElem?_take, List.getElem?_take, if_pos hk, if_pos hk] at h1
end Go.Proofs.Ytepfpgnjpkcgmaa

/-
  law8: LinearRings answers true.
-/
namespace Go.Proofs.Ytepfpgnjpkcgmaa
open Go Go.Abs Go.Limbs
variable {base : Prot}
set_option maxRecDepth 20000
attribute [local irreducible] vc
attribute [local simp] pureS touchV freezeL fuel shiftV u64 au
theorem few_isQ {P : Qo} (h : P.Is 64) (f : fewPo (ofP P) = true) : P.Is 8 ∧ P.ps.length ≤ 10 := by
  unfold fewPo at f
  rw [Bool.and_eq_true, Bool.and_eq_true, decide_eq_true_eq] at f
  obtain ⟨⟨f1, f2⟩, f3⟩ := f
  have hl : P.ps.length ≤ 10 := by simpa [ofP] using f2
  have key : ∀ q : Rat, fewF1 (ofQ q) = true → Sm 8 q := fun q h => by
    unfold fewF1 at h
    rw [Bool.and_eq_true, decide_eq_true_eq, decide_eq_true_eq] at h
    exact Sm_of_few h.1 h.2
  refine ⟨⟨h.ok, fun x hx => key x.1 (List.all_eq_true.1 f1 (ofA x) ?_), key _ f3⟩, hl⟩
  rw [List.take_of_length_le (by simp [ofP]; omega)]
  exact List.mem_map_of_mem hx
theorem few_ofQo {P : Qo} (h : P.ps.length ≤ 20) : (ofP P).few = true := decide_eq_true (by unfold ofP; simp; omega)
def Tlr : Tab := ((((((((((Tab.none.with 4 (pureS (g1 fewPoP))).with 5 (pureS (f1 fewP1))).with 6 (pureS (g1 okPo))).with 7 (pureS (f1 boolF))).with 8 (pureS sAwk)).with 9 (pureS (g2s addPP))).with 10 (pureS (gks scaleP))).with 11 (pureS sQOf)).with 12 (pureS (g2 samePo))).with 13 (pureS (g1 okPo))).with 14 (pureS (f1 signP))
theorem Tlr_ok : TabOk Try.prog base Tlr := Tab.with_ok (Tab.with_ok (Tab.with_ok (Tab.with_ok (Tab.with_ok (Tab.with_ok (Tab.with_ok (Tab.with_ok (Tab.with_ok (Tab.with_ok (Tab.with_ok Tab.none_ok apoly_ok) arat_ok) rpvalid_ok) rvalidR_ok) awake8_ok) ladd_ok) scale_ok) rofR_ok) lsamep_ok) lvalid_ok) rSign_ok
theorem Tlr_mu (f : FuncId) (a : List AVal) (H : Heap) : Tlr.mu f a H = none := (rfl)
theorem Tlr_fns : Tlr.fn 4 = (pureS (g1 fewPoP)) ∧ Tlr.fn 5 = (pureS (f1 fewP1)) ∧ Tlr.fn 6 = (pureS (g1 okPo)) ∧ Tlr.fn 7 = (pureS (f1 boolF)) ∧ Tlr.fn 8 = (pureS sAwk) ∧ Tlr.fn 9 = (pureS (g2s addPP)) ∧ Tlr.fn 10 = (pureS (gks scaleP)) ∧ Tlr.fn 11 = (pureS sQOf) ∧ Tlr.fn 12 = (pureS (g2 samePo)) ∧ Tlr.fn 13 = (pureS (g1 okPo)) ∧ Tlr.fn 14 = (pureS (f1 signP)) := ⟨rfl, rfl, rfl, rfl, rfl, rfl, rfl, rfl, rfl, rfl, rfl⟩
def sLaw8r : List PVal → Option PVal
  | [a, b, k] => match decPo a, decPo b, decF k with | some _, some _, some _ => some (.bool true) | _, _, _ => none
  | _ => none
theorem sLaw8r_at {p q : Po} {k : Fr} (wp : p.wf) (wq : q.wf) (wk : k.wf) : sLaw8r [p.enc, q.enc, k.enc] = some (.bool true) := by
  simp only [sLaw8r, decPo_enc wp, decPo_enc wq, decF_enc wk]
theorem sLaw8r_some {args : List PVal} {z : PVal} (h : sLaw8r args = some z) : ∃ (p q : Po) (k : Fr), p.wf ∧ q.wf ∧ k.wf ∧ args = [p.enc, q.enc, k.enc] ∧ z = .bool true := by
  unfold sLaw8r at h
  split at h
  · split at h
    · rename_i p q k hp hq hk
      cases h
      obtain ⟨rfl, wp⟩ := decPo_some hp
      obtain ⟨rfl, wq⟩ := decPo_some hq
      obtain ⟨rfl, wk⟩ := decF_some hk
      exact ⟨p, q, k, wp, wq, wk, rfl, rfl⟩
    · cases h
  · cases h
set_option maxHeartbeats 2000000 in
theorem linRings_ok : FnOk Try.prog base 3 (pureS sLaw8r) := by
  refine pure_of_vc hmix Tlr_ok globNone low3 fun args z hs hf => ?_
  obtain ⟨p, q, k, wp, wq, wk, rfl, rfl⟩ := sLaw8r_some hs
  refine ⟨by simp [lf3], ?_⟩
  have aw := sAwk_nil
  have c1 : g1 fewPoP [p.enc] = some (.bool (fewPo p)) := g1_at wp
  have c2 : g1 fewPoP [q.enc] = some (.bool (fewPo q)) := g1_at wq
  have c3 : f1 fewP1 [k.enc] = some (.bool (fewF1 k)) := f1_at wk
  have c4 : g1 okPo [p.enc] = some (.bool p.ok) := g1_at wp
  have c5 : g1 okPo [q.enc] = some (.bool q.ok) := g1_at wq
  have c6 : f1 boolF [k.enc] = some (.bool k.ok) := f1_at wk
  cases h1 : fewPo p with
  | false => rw [h1] at c1; simp only [Po.enc, Fr.enc] at c1 ⊢; simp [lf3, c1, aw, fillS, Tlr_mu, Tlr_fns]
  | true =>
  rw [h1] at c1
  cases h2 : fewPo q with
  | false => rw [h2] at c2; simp only [Po.enc, Fr.enc] at c1 c2 ⊢; simp [lf3, c1, c2, aw, fillS, Tlr_mu, Tlr_fns]
  | true =>
  rw [h2] at c2
  cases h3 : fewF1 k with
  | false => rw [h3] at c3; simp only [Po.enc, Fr.enc] at c1 c2 c3 ⊢; simp [lf3, c1, c2, c3, aw, fillS, Tlr_mu, Tlr_fns]
  | true =>
  rw [h3] at c3
  cases h4 : p.ok with
  | false => rw [h4] at c4; simp only [Po.enc, Fr.enc] at c1 c2 c3 c4 ⊢; simp [lf3, c1, c2, c3, c4, aw, fillS, Tlr_mu, Tlr_fns]
  | true =>
  rw [h4] at c4
  cases h5 : q.ok with
  | false => rw [h5] at c5; simp only [Po.enc, Fr.enc] at c1 c2 c3 c4 c5 ⊢; simp [lf3, c1, c2, c3, c4, c5, aw, fillS, Tlr_mu, Tlr_fns]
  | true =>
  rw [h5] at c5
  cases h6 : k.ok with
  | false => rw [h6] at c6; simp only [Po.enc, Fr.enc] at c1 c2 c3 c4 c5 c6 ⊢; simp [lf3, c1, c2, c3, c4, c5, c6, aw, fillS, Tlr_mu, Tlr_fns]
  | true =>
  rw [h6] at c6
  obtain ⟨P, hP64, rfl⟩ := po_of h4
  obtain ⟨Q, hQ64, rfl⟩ := po_of h5
  obtain ⟨c, hc64, rfl⟩ := Fr.ok_of h6
  obtain ⟨hP, lP⟩ := few_isQ hP64 h1
  obtain ⟨hQ, lQ⟩ := few_isQ hQ64 h2
  have hc : Sm 8 c := by
    unfold fewF1 at h3
    rw [Bool.and_eq_true, decide_eq_true_eq, decide_eq_true_eq] at h3
    exact Sm_of_few h3.1 h3.2
  have lS : (addQ P Q).ps.length ≤ 20 := by
    have := len_merge P.ps Q.ps
    show (mergeQ P.ps Q.ps).length ≤ 20
    omega
  have lnA := len_scale P c
  have lnB := len_scale Q c
  have lnN := len_scale P (-1)
  have sm1 : Sm 1 (-1 : Rat) := by decide +kernel
  have iS : (addQ P Q).Is 17 := addQ_is hP hQ
  have iM : (scaleQ (addQ P Q) c).Is 25 := scaleQ_is iS hc
  have s1 : g2s addPP [(ofP P).enc, (ofP Q).enc] = some (.tup [(ofP (addQ P Q)).enc, .int .i64 0]) := by
    rw [g2s_at (wf_ofP _) (wf_ofP _) (few_ofQo (by omega)) (few_ofQo (by omega))]; unfold addPP pairPo; rw [addPo_of hP hQ (by decide)]; rfl
  have s2 : g2s addPP [(ofP Q).enc, (ofP P).enc] = some (.tup [(ofP (addQ P Q)).enc, .int .i64 0]) := by
    rw [g2s_at (wf_ofP _) (wf_ofP _) (few_ofQo (by omega)) (few_ofQo (by omega))]; unfold addPP pairPo; rw [addPo_of hQ hP (by decide), addQ_comm Q P]; rfl
  have s3 : gks scaleP [(ofP (addQ P Q)).enc, (ofQ c).enc] = some (.tup [(ofP (scaleQ (addQ P Q) c)).enc, .int .i64 0]) := by
    rw [gks_at (wf_ofP _) (wf_ofQ _) (few_ofQo lS)]; unfold scaleP pairPo; rw [scalePo_of iS hc (by decide)]; rfl
  have s4 : gks scaleP [(ofP P).enc, (ofQ c).enc] = some (.tup [(ofP (scaleQ P c)).enc, .int .i64 0]) := by
    rw [gks_at (wf_ofP _) (wf_ofQ _) (few_ofQo (by omega))]; unfold scaleP pairPo; rw [scalePo_of hP hc (by decide)]; rfl
  have s5 : gks scaleP [(ofP Q).enc, (ofQ c).enc] = some (.tup [(ofP (scaleQ Q c)).enc, .int .i64 0]) := by
    rw [gks_at (wf_ofP _) (wf_ofQ _) (few_ofQo (by omega))]; unfold scaleP pairPo; rw [scalePo_of hQ hc (by decide)]; rfl
  have s6 : g2s addPP [(ofP (scaleQ P c)).enc, (ofP (scaleQ Q c)).enc] = some (.tup [(ofP (scaleQ (addQ P Q) c)).enc, .int .i64 0]) := by
    rw [g2s_at (wf_ofP _) (wf_ofP _) (few_ofQo (by omega)) (few_ofQo (by omega))]; unfold addPP pairPo; rw [addPo_of (scaleQ_is hP hc) (scaleQ_is hQ hc) (by decide), ← scaleQ_add]; rfl
  have s7 : gks scaleP [(ofP P).enc, (ofQ (-1)).enc] = some (.tup [(ofP (scaleQ P (-1))).enc, .int .i64 0]) := by
    rw [gks_at (wf_ofP _) (wf_ofQ _) (few_ofQo (by omega))]; unfold scaleP pairPo; rw [scalePo_of hP sm1 (by decide)]; rfl
  have s8 : g2s addPP [(ofP P).enc, (ofP (scaleQ P (-1))).enc] = some (.tup [(ofP ⟨[], 0⟩).enc, .int .i64 0]) := by
    rw [g2s_at (wf_ofP _) (wf_ofP _) (few_ofQo (by omega)) (few_ofQo (by omega))]; unfold addPP pairPo; rw [addPo_of hP (scaleQ_is hP sm1) (by decide), add_opp]; rfl
  rw [enc_ofP ⟨[], 0⟩] at s8
  have om1 := oL (n := -1) (d := 1) (q := -1) (by decide) (by decide +kernel)
  have e1 := samePo_self (wf_ofP (addQ P Q))
  have e2 := samePo_self (wf_ofP (scaleQ (addQ P Q) c))
  have v : g1 okPo [(ofP (scaleQ (addQ P Q) c)).enc] = some (.bool true) := by rw [g1_at (wf_ofP _)]; unfold okPo; rw [ok_ofP (iM.mono (by decide))]
  have z : f1 signP [(ofQ 0).enc] = some (.int .i64 0) := by rw [f1_at (wf_ofQ _)]; unfold signP; rw [signF_num (by decide +kernel)]; rfl
  obtain ⟨X, hX⟩ : ∃ x, x = ofP P := ⟨_, rfl⟩
  obtain ⟨Y, hY⟩ : ∃ x, x = ofP Q := ⟨_, rfl⟩
  obtain ⟨S, hS⟩ : ∃ x, x = ofP (addQ P Q) := ⟨_, rfl⟩
  obtain ⟨M, hM⟩ : ∃ x, x = ofP (scaleQ (addQ P Q) c) := ⟨_, rfl⟩
  obtain ⟨A, hA⟩ : ∃ x, x = ofP (scaleQ P c) := ⟨_, rfl⟩
  obtain ⟨B, hB⟩ : ∃ x, x = ofP (scaleQ Q c) := ⟨_, rfl⟩
  obtain ⟨N, hN⟩ : ∃ x, x = ofP (scaleQ P (-1)) := ⟨_, rfl⟩
  obtain ⟨y, hy⟩ : ∃ x, x = ofQ c := ⟨_, rfl⟩
  obtain ⟨m, hm⟩ : ∃ x, x = ofQ (-1) := ⟨_, rfl⟩
  obtain ⟨o, ho⟩ : ∃ x, x = ofQ 0 := ⟨_, rfl⟩
  simp only [List.map_nil, ← hX, ← hY, ← hS, ← hM, ← hA, ← hB, ← hN, ← hy, ← hm, ← ho] at c1 c2 c3 c4 c5 c6 s1 s2 s3 s4 s5 s6 s7 s8 om1 e1 e2 v z ⊢
  simp only [Po.enc, Fr.enc] at c1 c2 c3 c4 c5 c6 s1 s2 s3 s4 s5 s6 s7 s8 om1 e1 e2 v z ⊢
  simp [lf3, c1, c2, c3, c4, c5, c6, s1, s2, s3, s4, s5, s6, fillS, freeze1, Tlr_mu, Tlr_fns]
  rw [vc_regionW]
  refine ⟨[], ?_⟩
  simp [s7, s8, om1, e1, e2, v, z, aw, fillS, freeze1, Tlr_mu, Tlr_fns]
  exact keepT rfl
end Go.Proofs.Ytepfpgnjpkcgmaa
