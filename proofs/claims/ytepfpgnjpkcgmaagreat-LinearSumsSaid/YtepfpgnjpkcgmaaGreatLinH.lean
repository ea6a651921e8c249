/-
  law8's awake; LinearSums answers true on all values. No conditions.
-/
import Derived.Test.YtepfpgnjpkcgmaaGreatLinF
import Derived.Test.YtepfpgnjpkcgmaaGreatLinG
set_option linter.unusedSimpArgs false
set_option linter.unnecessarySimpa false
set_option linter.unusedVariables false
set_option linter.constructorNameAsVariable false

/-
  law8: awake; LinearSums answers true.
-/
namespace Go.Proofs.YtepfpgnjpkcgmaaGreat
open Go Go.Abs Go.Limbs
variable {base : Prot}
set_option maxRecDepth 20000
attribute [local irreducible] vc
attribute [local simp] pureS touchV freezeL fuel shiftV u64 au
def pw : Qo := ⟨[(2, 1), (-1, 4)], 3⟩
theorem pw_is : pw.Is 1 := by
  refine ⟨⟨by decide, by decide +kernel, by decide, by decide +kernel, trivial⟩, fun x hx => ?_, by decide +kernel⟩
  simp only [pw, List.mem_cons, List.not_mem_nil, or_false] at hx
  rcases hx with rfl | rfl <;> decide +kernel
theorem qt_lit {p q r : Rat} (hp : Sm 64 p) (hq : Sm 64 q) (h0 : q ≠ 0) (hr : Sm 64 r) (e : p / q = r) : quoF (ofQ p) (ofQ q) = (ofQ r, 0) := by
  rw [quoF_num hp hq h0, e, heldQ_ok hr]
theorem aw8_solve : solvePo (ofP pw) 1 = (ofP ⟨[(1/2, 4)], -3/2⟩, 0) := by
  have h1 : findF 1 (ofP pw).ps = some (ofQ 2) := rfl
  have h2 : quoF (ofQ (-1)) (ofQ 2) = (ofQ (-1/2), 0) := qt_lit (by decide +kernel) (by decide +kernel) (by decide +kernel) (by decide +kernel) (by decide +kernel)
  have h3 : withoutPo (ofP pw) 1 = ofP ⟨[(-1, 4)], 3⟩ := rfl
  have h4 : (⟨[(-1, 4)], 3⟩ : Qo).Is 1 := ⟨⟨by decide, by decide +kernel, trivial⟩, fun x hx => (by
    simp only [List.mem_cons, List.not_mem_nil, or_false] at hx
    subst hx; decide +kernel), by decide +kernel⟩
  unfold solvePo
  rw [h1, ok_ofP (pw_is.mono (by decide))]
  simp only [if_true, h2, h3]
  rw [scalePo_of h4 (k := -1/2) (m := 1) (by decide +kernel) (by decide)]
  unfold scaleQ mulQ
  rw [if_neg (by decide +kernel)]
  simp only [List.map_cons, List.map_nil]
  rw [show (-1 : Rat) * (-1/2) = 1/2 by decide +kernel, show (3 : Rat) * (-1/2) = -3/2 by decide +kernel]
theorem aw8_none : solvePo (ofP pw) 2 = (zPo, 1) := rfl
theorem aw8_add : addPo (ofP pw) (ofP ⟨[(1, 4)], 0⟩) = (ofP ⟨[(2, 1)], 3⟩, 0) := by
  have h4 : (⟨[(1, 4)], 0⟩ : Qo).Is 1 := ⟨⟨by decide, by decide +kernel, trivial⟩, fun x hx => (by
    simp only [List.mem_cons, List.not_mem_nil, or_false] at hx
    subst hx; decide +kernel), by decide +kernel⟩
  rw [addPo_of pw_is h4 (by decide)]
  unfold addQ pw
  simp only
  rw [mergeQ_lt (by decide), mergeQ_eq (x := (-1, 4)) (y := (1, 4)) rfl, if_pos (by decide +kernel), mergeQ_nil, show (3 : Rat) + 0 = 3 by decide +kernel]
theorem aw8_scale : scalePo (ofP pw) (ofQ 0) = (ofP ⟨[], 0⟩, 0) := by
  rw [scalePo_of pw_is (k := 0) (m := 1) (by decide +kernel) (by decide)]
  unfold scaleQ
  rw [if_pos rfl, Rat.mul_zero]
theorem mul_lit {p q r : Rat} (hp : Sm 64 p) (hq : Sm 64 q) (hr : Sm 64 r) (e : p * q = r) : mulF (ofQ p) (ofQ q) = (ofQ r, 0) := by rw [mulF_num hp hq, e, heldQ_ok hr]
theorem add_lit {p q r : Rat} (hp : Sm 64 p) (hq : Sm 64 q) (hr : Sm 64 r) (e : p + q = r) : addF (ofQ p) (ofQ q) = (ofQ r, 0) := by rw [addF_num hp hq, e, heldQ_ok hr]
theorem aw8_value : valuePo (fun i => ofQ (Rat.divInt i 1)) (ofP pw) = (ofQ 1, 0) := by
  unfold valuePo
  rw [ok_ofP (pw_is.mono (by decide))]
  have e1 : Rat.divInt 1 1 = 1 := by decide +kernel
  have e4 : Rat.divInt 4 1 = 4 := by decide +kernel
  have ha : ((ofP pw).ps.all fun x => (ofQ (Rat.divInt x.t 1)).ok) = true := by
    show ((ofQ (Rat.divInt 1 1)).ok && ((ofQ (Rat.divInt 4 1)).ok && true)) = true
    rw [e1, e4, ok_ofQ (by decide +kernel : Sm 64 (1 : Rat)), ok_ofQ (by decide +kernel : Sm 64 (4 : Rat))]
    rfl
  rw [ha]
  simp only [Bool.and_self, if_true]
  show sumF _ [⟨ofQ 2, 1⟩, ⟨ofQ (-1), 4⟩] (ofQ 3) = _
  have m1 : mulF (ofQ 2) (ofQ 1) = (ofQ 2, 0) := mul_lit (by decide +kernel) (by decide +kernel) (by decide +kernel) (by decide +kernel)
  have m2 : mulF (ofQ (-1)) (ofQ 4) = (ofQ (-4), 0) := mul_lit (by decide +kernel) (by decide +kernel) (by decide +kernel) (by decide +kernel)
  have a1 : addF (ofQ 3) (ofQ 2) = (ofQ 5, 0) := add_lit (by decide +kernel) (by decide +kernel) (by decide +kernel) (by decide +kernel)
  have a2 : addF (ofQ 5) (ofQ (-4)) = (ofQ 1, 0) := add_lit (by decide +kernel) (by decide +kernel) (by decide +kernel) (by decide +kernel)
  simp only [sumF, e1, e4, m1, m2, a1, a2, if_true]
theorem enc_ofP (p : Qo) : (ofP p).enc = .agg [.lst (p.ps.map fun x => .agg [.bool (ofQ x.1).s, .lst ((ofQ x.1).n.map u64), .lst ((ofQ x.1).d.map u64), .int .i64 x.2]), .bool (ofQ p.c).s, .lst ((ofQ p.c).n.map u64), .lst ((ofQ p.c).d.map u64)] := by
  unfold ofP Po.enc
  simp only [List.map_map]
  rfl
theorem ok_zPo : zPo.ok = false := by unfold Po.ok zPo; rw [ok_zF]; rfl
def Taw8 : Tab := ((((((((Tab.none.with 82 (pureS sQOf)).with 29 (pureS (f2 sameP))).with 21 (pureS (gis solveP))).with 17 (pureS (g2s addPP))).with 19 (pureS (gks scaleP))).with 23 (pureS (sValue L8))).with 30 (pureS (g1 okPo))).with 34 (pureS (g2 samePo))).with 32 (pureS (gi coefP))
theorem Taw8_ok : TabOk Tryz.prog base Taw8 := Tab.with_ok (Tab.with_ok (Tab.with_ok (Tab.with_ok (Tab.with_ok (Tab.with_ok (Tab.with_ok (Tab.with_ok (Tab.with_ok Tab.none_ok rofR_ok) rsame_ok) solve_ok) ladd_ok) scale_ok) value8_ok) lvalid_ok) lsamep_ok) lcoef_ok
theorem Taw8_mu (f : FuncId) (a : List AVal) (H : Heap) : Taw8.mu f a H = none := (rfl)
theorem Taw8_fns : Taw8.fn 82 = (pureS sQOf) ∧ Taw8.fn 29 = (pureS (f2 sameP)) ∧ Taw8.fn 21 = (pureS (gis solveP)) ∧ Taw8.fn 17 = (pureS (g2s addPP)) ∧ Taw8.fn 19 = (pureS (gks scaleP)) ∧ Taw8.fn 23 = (pureS (sValue L8)) ∧ Taw8.fn 30 = (pureS (g1 okPo)) ∧ Taw8.fn 34 = (pureS (g2 samePo)) ∧ Taw8.fn 32 = (pureS (gi coefP)) := ⟨rfl, rfl, rfl, rfl, rfl, rfl, rfl, rfl, rfl⟩
def sAwk : List PVal → Option PVal
  | [] => some (.bool true)
  | _ => none
theorem sAwk_nil : sAwk [] = some (.bool true) := rfl
theorem oL {n d : Int} {q : Rat} (h : (-1000 ≤ n ∧ n ≤ 1000) ∧ (-1000 ≤ d ∧ d ≤ 1000)) (e : Rat.divInt n d = q) : sQOf [.int .i64 n, .int .i64 d] = some (ofQ q).enc := by rw [ofR h, e]
theorem samePo_self {p : Po} (h : p.wf) : g2 samePo [p.enc, p.enc] = some (.bool true) := by rw [g2_at h h]; unfold samePo; rw [decide_eq_true rfl]
set_option maxHeartbeats 1000000 in
theorem awake8_ok : FnOk Tryz.prog base 16 (pureS sAwk) := by
  refine pure_of_vcB hmix Taw8_ok globNone low16 fun args z hs hf => ?_
  unfold sAwk at hs
  split at hs
  case h_2 => cases hs
  cases hs
  refine ⟨by simp [lf16], ?_⟩
  have o2 := oL (n := 2) (d := 1) (q := 2) (by decide) (by decide +kernel)
  have om1 := oL (n := -1) (d := 1) (q := -1) (by decide) (by decide +kernel)
  have o3 := oL (n := 3) (d := 1) (q := 3) (by decide) (by decide +kernel)
  have o1 := oL (n := 1) (d := 1) (q := 1) (by decide) (by decide +kernel)
  have o0 := oL (n := 0) (d := 1) (q := 0) (by decide) (by decide +kernel)
  have o12 := oL (n := 1) (d := 2) (q := 1/2) (by decide) (by decide +kernel)
  have om32 := oL (n := -3) (d := 2) (q := -3/2) (by decide) (by decide +kernel)
  have fw : (ofP pw).few = true := rfl
  have S1 : gis solveP [(ofP pw).enc, .int .i64 1] = some (.tup [(ofP ⟨[(1/2, 4)], -3/2⟩).enc, .int .i64 0]) := by rw [gis_at (wf_ofP _) fw]; unfold solveP pairPo; rw [aw8_solve]; rfl
  have S2 : gis solveP [(ofP pw).enc, .int .i64 2] = some (.tup [zPo.enc, .int .i64 1]) := by rw [gis_at (wf_ofP _) fw]; unfold solveP pairPo; rw [aw8_none]; rfl
  have A : g2s addPP [(ofP pw).enc, (ofP ⟨[(1, 4)], 0⟩).enc] = some (.tup [(ofP ⟨[(2, 1)], 3⟩).enc, .int .i64 0]) := by rw [g2s_at (wf_ofP _) (wf_ofP _) fw rfl]; unfold addPP pairPo; rw [aw8_add]; rfl
  have K : gks scaleP [(ofP pw).enc, (ofQ 0).enc] = some (.tup [(ofP ⟨[], 0⟩).enc, .int .i64 0]) := by rw [gks_at (wf_ofP _) (wf_ofQ _) fw]; unfold scaleP pairPo; rw [aw8_scale]; rfl
  have V : sValue L8 [(ofP pw).enc, .clo 84 []] = some (.tup [(ofQ 1).enc, .int .i64 0]) := by rw [sValue_at (lk := fun i => ofQ (Rat.divInt i 1)) (wf_ofP _) fw rfl]; unfold pairF; rw [aw8_value]; rfl
  have G1 : g1 okPo [(ofP pw).enc] = some (.bool true) := by rw [g1_at (wf_ofP _)]; unfold okPo; rw [ok_ofP (pw_is.mono (by decide))]
  have G2 : g1 okPo [zPo.enc] = some (.bool false) := by rw [g1_at wf_zPo]; unfold okPo; rw [ok_zPo]
  have E := samePo_self (wf_ofP pw)
  have C : gi coefP [(ofP pw).enc, .int .i64 4] = some (ofQ (-1)).enc := by
    rw [gi_at (wf_ofP _)]
    have h1 : findF 4 (ofP pw).ps = some (ofQ (-1)) := rfl
    unfold coefP coefPo
    rw [h1, ok_ofP (pw_is.mono (by decide))]
    rfl
  have E1 := sameP_self (1/2)
  have E2 := sameP_self (-3/2)
  have E3 := sameP_self 1
  have E4 := sameP_self (-1)
  have ez := ofQ_zero
  simp only [enc_ofP] at S1 S2 A K V G1 E C
  unfold pw at S1 S2 A K V G1 E C
  simp only [List.map_cons, List.map_nil] at S1 S2 A K V G1 E C
  obtain ⟨x2, e2⟩ : ∃ x, x = ofQ 2 := ⟨_, rfl⟩
  obtain ⟨xm1, em1⟩ : ∃ x, x = ofQ (-1) := ⟨_, rfl⟩
  obtain ⟨x3, e3⟩ : ∃ x, x = ofQ 3 := ⟨_, rfl⟩
  obtain ⟨x1, e1⟩ : ∃ x, x = ofQ 1 := ⟨_, rfl⟩
  obtain ⟨x0, e0⟩ : ∃ x, x = ofQ 0 := ⟨_, rfl⟩
  obtain ⟨x12, e12⟩ : ∃ x, x = ofQ (1/2) := ⟨_, rfl⟩
  obtain ⟨xm32, em32⟩ : ∃ x, x = ofQ (-3/2) := ⟨_, rfl⟩
  simp only [← e2, ← em1, ← e3, ← e1, ← e0, ← e12, ← em32] at o2 om1 o3 o1 o0 o12 om32 S1 S2 A K V G1 G2 E C E1 E2 E3 E4
  simp only [Fr.enc, Po.enc, zPo, zF, List.map_nil] at o2 om1 o3 o1 o0 o12 om32 S1 S2 A K V G1 G2 E C E1 E2 E3 E4
  clear e2 em1 e3 e1 e0 e12 em32 ez
  simp [lf16, o2, om1, o3, S1, fillS, freeze1, Taw8_mu, Taw8_fns]
  rw [vc_regionN]
  refine ⟨[], ?_⟩
  simp [o1, o0, A, fillS, freeze1, Taw8_mu, Taw8_fns]
  refine ⟨keep3, ⟨keep3, fun M hM => ?_⟩, ?_⟩
  · obtain ⟨m, rfl⟩ := List.length_eq_one_iff.1 hM
    simp [A, freeze1, Taw8_mu, Taw8_fns]
  · simp [V, S2, fillS, freeze1, Taw8_mu, Taw8_fns]
    rw [vc_regionN]
    refine ⟨[], ?_⟩
    simp [o0, o1, o12, om32, om1, E1, E2, E3, E4, G1, G2, E, C, K, fillS, freeze1, Taw8_mu, Taw8_fns]
end Go.Proofs.YtepfpgnjpkcgmaaGreat

/-
  law8: LinearSums answers true.
-/
namespace Go.Proofs.YtepfpgnjpkcgmaaGreat
open Go Go.Abs Go.Limbs
variable {base : Prot}
set_option maxRecDepth 20000
attribute [local irreducible] vc
attribute [local simp] pureS touchV freezeL fuel shiftV u64 au
theorem keepT {l m : Heap} {n : Nat} (h : l.take n = m.take n) (k : Nat) (hk : k < n) : l[k]? = m[k]? := by
  have h1 : (l.take n)[k]? = (m.take n)[k]? := by rw [h]
  rwa [List.getElem?_take, List.getElem?_take, if_pos hk, if_pos hk] at h1
theorem fewPo_few {p : Po} (h : fewPo p = true) : p.few = true := by
  unfold fewPo at h
  rw [Bool.and_eq_true, Bool.and_eq_true] at h
  have := of_decide_eq_true h.1.2
  unfold Po.few
  exact decide_eq_true (by omega)
theorem wfPs_merge : ∀ {l m r : List Pa}, wfPs l → wfPs m → mergeF l m = some r → wfPs r
  | [], m, r, _, hm, h => by
    rw [mergeF] at h; cases h; exact hm
  | x :: l, [], r, hl, _, h => by
    rw [mergeF] at h; cases h; exact hl
  | x :: l, y :: m, r, hl, hm, h => by
    have hx := hl x (by simp)
    have hy := hm y (by simp)
    have hl' : wfPs l := fun z hz => hl z (by simp [hz])
    have hm' : wfPs m := fun z hz => hm z (by simp [hz])
    rw [mergeF] at h
    split at h
    · rw [Option.map_eq_some_iff] at h
      obtain ⟨s, hs, rfl⟩ := h
      exact List.forall_mem_cons.2 ⟨hx, wfPs_merge hl' hm hs⟩
    · split at h
      · rw [Option.map_eq_some_iff] at h
        obtain ⟨s, hs, rfl⟩ := h
        exact List.forall_mem_cons.2 ⟨hy, wfPs_merge hl hm' hs⟩
      · split at h
        · rw [Option.map_eq_some_iff] at h
          obtain ⟨s, hs, rfl⟩ := h
          have := wfPs_merge hl' hm' hs
          split
          · exact this
          · exact List.forall_mem_cons.2 ⟨wf_addF _ _, this⟩
        · cases h
termination_by l m => l.length + m.length
theorem wfPs_scale {k : Fr} : ∀ {l r : List Pa}, scaleF k l = some r → wfPs r
  | [], r, h => by rw [scaleF] at h; cases h; exact fun x hx => (by cases hx)
  | x :: l, r, h => by
    rw [scaleF] at h
    split at h
    · rw [Option.map_eq_some_iff] at h
      obtain ⟨s, hs, rfl⟩ := h
      exact List.forall_mem_cons.2 ⟨wf_mulF _ _, wfPs_scale hs⟩
    · cases h
theorem wf_addPo {p q : Po} (hp : p.wf) (hq : q.wf) : (addPo p q).1.wf := by
  unfold addPo
  split
  · split
    · cases h : mergeF p.ps q.ps with
      | none => exact wf_zPo
      | some r => exact ⟨wfPs_merge hp.1 hq.1 h, wf_addF _ _⟩
    · exact wf_zPo
  · exact wf_zPo
theorem wf_scalePo (p : Po) (k : Fr) : (scalePo p k).1.wf := by
  unfold scalePo
  split
  · split
    · split
      · exact ⟨fun x hx => (by cases hx), wf_mulF _ _⟩
      · cases h : scaleF k p.ps with
        | none => exact wf_zPo
        | some r => exact ⟨wfPs_scale h, wf_mulF _ _⟩
    · exact wf_zPo
  · exact wf_zPo
theorem wf_solvePo (p : Po) (t : Int) : (solvePo p t).1.wf := by
  unfold solvePo
  split
  · split
    · split
      · exact wf_scalePo _ _
      · exact wf_zPo
    · exact wf_zPo
  · exact wf_zPo
theorem wf_sumF {lk : Int → Fr} : ∀ {l : List Pa} {s : Fr}, s.wf → (sumF lk l s).1.wf
  | [], s, h => h
  | x :: l, s, h => by
    unfold sumF
    split
    · split
      · exact wf_sumF (wf_addF _ _)
      · exact wf_zF
    · exact wf_zF
theorem wf_valuePo {lk : Int → Fr} {p : Po} (h : p.wf) : (valuePo lk p).1.wf := by
  unfold valuePo
  split
  · exact wf_sumF h.2
  · exact wf_zF
def Tls8 : Tab := (((((((((((((((((((Tab.none.with 13 (pureS (g1 fewPoP))).with 14 (pureS (f1 fewP1))).with 15 (pureS sFewB8)).with 16 (pureS sAwk)).with 17 (pureS (g2s addPP))).with 18 (pureS (g2s addPP))).with 19 (pureS (gks scaleP))).with 20 (pureS (gks scaleP))).with 21 (pureS (gis solveP))).with 22 (pureS (gis solveP))).with 23 (pureS (sValue L8))).with 26 (pureS sBinds8)).with 27 (pureS sRVal)).with 28 (pureS (g2 samePo))).with 29 (pureS (f2 sameP))).with 30 (pureS (g1 okPo))).with 31 (pureS (g1 okPo))).with 32 (pureS (gi coefP))).with 33 (pureS (gi coefP))).with 34 (pureS (g2 samePo))
theorem Tls8_ok : TabOk Tryz.prog base Tls8 := Tab.with_ok (Tab.with_ok (Tab.with_ok (Tab.with_ok (Tab.with_ok (Tab.with_ok (Tab.with_ok (Tab.with_ok (Tab.with_ok (Tab.with_ok (Tab.with_ok (Tab.with_ok (Tab.with_ok (Tab.with_ok (Tab.with_ok (Tab.with_ok (Tab.with_ok (Tab.with_ok (Tab.with_ok (Tab.with_ok Tab.none_ok apoly_ok) arat_ok) fewB8_ok) awake8_ok) ladd_ok) raddP_ok) scale_ok) rscale_ok) solve_ok) rsolve_ok) value8_ok) binds8_ok) rvalue_ok) rpsame_ok) rsame_ok) lvalid_ok) rpvalid_ok) lcoef_ok) rcoef_ok) lsamep_ok
theorem Tls8_mu (f : FuncId) (a : List AVal) (H : Heap) : Tls8.mu f a H = none := (rfl)
theorem Tls8_fns : Tls8.fn 13 = (pureS (g1 fewPoP)) ∧ Tls8.fn 14 = (pureS (f1 fewP1)) ∧ Tls8.fn 15 = (pureS sFewB8) ∧ Tls8.fn 16 = (pureS sAwk) ∧ Tls8.fn 17 = (pureS (g2s addPP)) ∧ Tls8.fn 18 = (pureS (g2s addPP)) ∧ Tls8.fn 19 = (pureS (gks scaleP)) ∧ Tls8.fn 20 = (pureS (gks scaleP)) ∧ Tls8.fn 21 = (pureS (gis solveP)) ∧ Tls8.fn 22 = (pureS (gis solveP)) ∧ Tls8.fn 23 = (pureS (sValue L8)) ∧ Tls8.fn 26 = (pureS sBinds8) ∧ Tls8.fn 27 = (pureS sRVal) ∧ Tls8.fn 28 = (pureS (g2 samePo)) ∧ Tls8.fn 29 = (pureS (f2 sameP)) ∧ Tls8.fn 30 = (pureS (g1 okPo)) ∧ Tls8.fn 31 = (pureS (g1 okPo)) ∧ Tls8.fn 32 = (pureS (gi coefP)) ∧ Tls8.fn 33 = (pureS (gi coefP)) ∧ Tls8.fn 34 = (pureS (g2 samePo)) := ⟨rfl, rfl, rfl, rfl, rfl, rfl, rfl, rfl, rfl, rfl, rfl, rfl, rfl, rfl, rfl, rfl, rfl, rfl, rfl, rfl⟩
def sLaw8 : List PVal → Option PVal
  | [a, b, k, .int .i64 _, .lst vs] => match decPo a, decPo b, decF k, decBs vs with | some _, some _, some _, some _ => some (.bool true) | _, _, _, _ => none
  | _ => none
theorem sLaw8_at {p q : Po} {k : Fr} {t : Int} {l : List Bd} (wp : p.wf) (wq : q.wf) (wk : k.wf) (wl : wfB l) : sLaw8 [p.enc, q.enc, k.enc, .int .i64 t, .lst (l.map Bd.enc)] = some (.bool true) := by
  simp only [sLaw8, decPo_enc wp, decPo_enc wq, decF_enc wk, decBs_enc wl]
theorem sLaw8_some {args : List PVal} {z : PVal} (h : sLaw8 args = some z) : ∃ (p q : Po) (k : Fr) (t : Int) (l : List Bd), p.wf ∧ q.wf ∧ k.wf ∧ wfB l ∧ args = [p.enc, q.enc, k.enc, .int .i64 t, .lst (l.map Bd.enc)] ∧ z = .bool true := by
  unfold sLaw8 at h
  split at h
  · split at h
    · rename_i p q k l hp hq hk hl
      cases h
      obtain ⟨rfl, wp⟩ := decPo_some hp
      obtain ⟨rfl, wq⟩ := decPo_some hq
      obtain ⟨rfl, wk⟩ := decF_some hk
      obtain ⟨rfl, wl⟩ := decBs_some hl
      exact ⟨p, q, k, _, l, wp, wq, wk, wl, rfl, rfl⟩
    · cases h
  · cases h
theorem linSums_ok : FnOk Tryz.prog base 3 (pureS sLaw8) := by
  refine pure_of_vc hmix Tls8_ok globNone low3 fun args z hs hf => ?_
  obtain ⟨p, q, k, t, l, wp, wq, wk, wl, rfl, rfl⟩ := sLaw8_some hs
  refine ⟨by simp [lf3], ?_⟩
  have aw := sAwk_nil
  have c1 : g1 fewPoP [p.enc] = some (.bool (fewPo p)) := g1_at wp
  have c2 : g1 fewPoP [q.enc] = some (.bool (fewPo q)) := g1_at wq
  have c3 : f1 fewP1 [k.enc] = some (.bool (fewF1 k)) := f1_at wk
  have c4 := sFewB8_at wl
  cases h1 : fewPo p with
  | false => rw [h1] at c1; simp only [Po.enc, Fr.enc] at c1 ⊢; simp [lf3, c1, aw, fillS, Tls8_mu, Tls8_fns]
  | true =>
  rw [h1] at c1
  cases h2 : fewPo q with
  | false => rw [h2] at c2; simp only [Po.enc, Fr.enc] at c1 c2 ⊢; simp [lf3, c1, c2, aw, fillS, Tls8_mu, Tls8_fns]
  | true =>
  rw [h2] at c2
  cases h3 : fewF1 k with
  | false => rw [h3] at c3; simp only [Po.enc, Fr.enc] at c1 c2 c3 ⊢; simp [lf3, c1, c2, c3, aw, fillS, Tls8_mu, Tls8_fns]
  | true =>
  rw [h3] at c3
  cases h4 : fewB l with
  | false => rw [h4] at c4; simp only [Po.enc, Fr.enc] at c1 c2 c3 c4 ⊢; simp [lf3, c1, c2, c3, c4, aw, fillS, Tls8_mu, Tls8_fns]
  | true =>
  rw [h4] at c4
  have fp := fewPo_few h1
  have fq := fewPo_few h2
  have hl : l.length ≤ 1000000 := by have := fewB_len h4; omega
  have s1 : g2s addPP [p.enc, q.enc] = some (pairPo (addPo p q)) := g2s_at wp wq fp fq
  have s2 : gks scaleP [p.enc, k.enc] = some (pairPo (scalePo p k)) := gks_at wp wk fp
  have s3 : gis solveP [p.enc, .int .i64 t] = some (pairPo (solvePo p t)) := gis_at wp fp
  have s4 := sValue_at (c := .clo 24 [.cptr [.lst (l.map Bd.enc)]]) wp fp (L8_at (p := p) wl hl)
  have s5 := sBinds8_at wl hl
  have s6 := sRVal_at wp fp wl
  have v : g1 okPo [p.enc] = some (.bool p.ok) := g1_at wp
  have c : gi coefP [p.enc, .int .i64 t] = some (coefPo p t).enc := gi_at wp
  have d : g2 samePo [p.enc, q.enc] = some (.bool (decide (p = q))) := g2_at wp wq
  have e1 := samePo_self (wf_addPo wp wq)
  have e2 := samePo_self (wf_scalePo p k)
  have e3 := samePo_self (wf_solvePo p t)
  have e4 := sameP_wf (wf_valuePo (lk := lookB l) wp)
  have e5 := sameP_wf (wf_coefPo wp t)
  obtain ⟨A, hA⟩ : ∃ A, A = addPo p q := ⟨_, rfl⟩
  obtain ⟨S, hS⟩ : ∃ A, A = scalePo p k := ⟨_, rfl⟩
  obtain ⟨M, hM⟩ : ∃ A, A = solvePo p t := ⟨_, rfl⟩
  obtain ⟨Q, hQ⟩ : ∃ A, A = valuePo (lookB l) p := ⟨_, rfl⟩
  obtain ⟨N, hN⟩ : ∃ A, A = coefPo p t := ⟨_, rfl⟩
  obtain ⟨b, hb⟩ : ∃ A, A = p.ok := ⟨_, rfl⟩
  obtain ⟨m, hm⟩ : ∃ A, A = decide (p = q) := ⟨_, rfl⟩
  rw [← hA] at s1 e1
  rw [← hS] at s2 e2
  rw [← hM] at s3 e3
  rw [← hQ] at s4 s6 e4
  rw [← hN] at c e5
  rw [← hb] at v
  rw [← hm] at d
  simp only [pairPo, pairF, Po.enc, Fr.enc] at c1 c2 c3 c4 s1 s2 s3 s4 s5 s6 v c d e1 e2 e3 e4 e5 ⊢
  simp [lf3, c1, c2, c3, c4, s1, s2, s3, s4, aw, mkClo, fillS, freeze1, Tls8_mu, Tls8_fns]
  rw [vc_regionW]
  refine ⟨[], ?_⟩
  cases b <;> cases m <;> simp [lf3, s5, s6, v, c, d, e1, e2, e3, e4, e5, aw, mkClo, fillS, freeze1, Tls8_mu, Tls8_fns]
  all_goals exact keepT (rfl)
end Go.Proofs.YtepfpgnjpkcgmaaGreat
