/-
  AtomTells answers true on all values. No conditions.
-/
import Derived.Test.YtepfpgnjpkcgmaaGreatAtomD
set_option linter.unusedSimpArgs false
set_option linter.unnecessarySimpa false
set_option linter.unusedVariables false
set_option linter.constructorNameAsVariable false

/-
  law9: AtomTells answers true.
-/
namespace Go.Proofs.YtepfpgnjpkcgmaaGreat
open Go Go.Abs Go.Limbs
variable {base : Prot}
set_option maxRecDepth 20000
attribute [local irreducible] vc
attribute [local simp] pureS touchV freezeL fuel shiftV u64 au
theorem wf_notAt (x : At) : (notAt x).1.p.wf := by
  unfold notAt
  split
  · split
    · exact wf_makeAt
    · exact wf_zPo
  · exact wf_zPo
theorem sameAt_self {x : At} (h : x.p.wf) : h2 sameAt [x.enc, x.enc] = some (.bool true) := by rw [h2_at h h]; unfold sameAt; rw [decide_eq_true rfl]
def Tat : Tab := (((((((((((((Tab.none.with 35 (pureS (h1 fewAt))).with 36 (pureS sFewB9)).with 37 (pureS sAwk)).with 38 (pureS (h1s notP))).with 39 (pureS (h1s notP))).with 40 (pureS (h1 trivP))).with 41 (pureS (h1 trivP))).with 42 (pureS (sHolds L9))).with 44 (pureS sBinds9)).with 45 (pureS sRHolds)).with 46 (pureS (h1 okAt))).with 47 (pureS (h1 okAt))).with 48 (pureS (h2 sameAt))).with 49 (pureS (h2 sameAt))
theorem Tat_ok : TabOk Tryz.prog base Tat := Tab.with_ok (Tab.with_ok (Tab.with_ok (Tab.with_ok (Tab.with_ok (Tab.with_ok (Tab.with_ok (Tab.with_ok (Tab.with_ok (Tab.with_ok (Tab.with_ok (Tab.with_ok (Tab.with_ok (Tab.with_ok Tab.none_ok aatom_ok) fewB9_ok) awake9_ok) anot_ok) rnot_ok) atriv_ok) rtriv_ok) holds9_ok) binds9_ok) rholds_ok) avalid_ok) rvatom_ok) rsamea_ok) asame_ok
theorem Tat_mu (f : FuncId) (a : List AVal) (H : Heap) : Tat.mu f a H = none := (rfl)
theorem Tat_fns : Tat.fn 35 = (pureS (h1 fewAt)) ∧ Tat.fn 36 = (pureS sFewB9) ∧ Tat.fn 37 = (pureS sAwk) ∧ Tat.fn 38 = (pureS (h1s notP)) ∧ Tat.fn 39 = (pureS (h1s notP)) ∧ Tat.fn 40 = (pureS (h1 trivP)) ∧ Tat.fn 41 = (pureS (h1 trivP)) ∧ Tat.fn 42 = (pureS (sHolds L9)) ∧ Tat.fn 44 = (pureS sBinds9) ∧ Tat.fn 45 = (pureS sRHolds) ∧ Tat.fn 46 = (pureS (h1 okAt)) ∧ Tat.fn 47 = (pureS (h1 okAt)) ∧ Tat.fn 48 = (pureS (h2 sameAt)) ∧ Tat.fn 49 = (pureS (h2 sameAt)) := ⟨rfl, rfl, rfl, rfl, rfl, rfl, rfl, rfl, rfl, rfl, rfl, rfl, rfl, rfl⟩
def sLaw9a : List PVal → Option PVal
  | [a, b, .lst vs] => match decAt a, decAt b, decBs vs with | some _, some _, some _ => some (.bool true) | _, _, _ => none
  | _ => none
theorem sLaw9a_at {x y : At} {l : List Bd} (wx : x.p.wf) (wy : y.p.wf) (wl : wfB l) : sLaw9a [x.enc, y.enc, .lst (l.map Bd.enc)] = some (.bool true) := by
  simp only [sLaw9a, decAt_enc wx, decAt_enc wy, decBs_enc wl]
theorem sLaw9a_some {args : List PVal} {z : PVal} (h : sLaw9a args = some z) : ∃ (x y : At) (l : List Bd), x.p.wf ∧ y.p.wf ∧ wfB l ∧ args = [x.enc, y.enc, .lst (l.map Bd.enc)] ∧ z = .bool true := by
  unfold sLaw9a at h
  split at h
  · split at h
    · rename_i x y l hx hy hl
      cases h
      obtain ⟨rfl, wx⟩ := decAt_some hx
      obtain ⟨rfl, wy⟩ := decAt_some hy
      obtain ⟨rfl, wl⟩ := decBs_some hl
      exact ⟨x, y, l, wx, wy, wl, rfl, rfl⟩
    · cases h
  · cases h
set_option maxHeartbeats 2000000 in
theorem atomTells_ok : FnOk Tryz.prog base 4 (pureS sLaw9a) := by
  refine pure_of_vc hmix Tat_ok globNone low4 fun args z hs hf => ?_
  obtain ⟨x, y, l, wx, wy, wl, rfl, rfl⟩ := sLaw9a_some hs
  refine ⟨by simp [lf4], ?_⟩
  have aw := sAwk_nil
  have c1 : h1 fewAt [x.enc] = some (.bool (fewPo x.p)) := h1_at wx
  have c2 : h1 fewAt [y.enc] = some (.bool (fewPo y.p)) := h1_at wy
  have c4 := sFewB9_at wl
  cases g1 : fewPo x.p with
  | false => rw [g1] at c1; simp only [At.enc, Po.enc, Fr.enc] at c1 ⊢; simp [lf4, c1, aw, fillS, Tat_mu, Tat_fns]
  | true =>
  rw [g1] at c1
  cases g2 : fewPo y.p with
  | false => rw [g2] at c2; simp only [At.enc, Po.enc, Fr.enc] at c1 c2 ⊢; simp [lf4, c1, c2, aw, fillS, Tat_mu, Tat_fns]
  | true =>
  rw [g2] at c2
  cases g4 : fewB l with
  | false => rw [g4] at c4; simp only [At.enc, Po.enc, Fr.enc] at c1 c2 c4 ⊢; simp [lf4, c1, c2, c4, aw, fillS, Tat_mu, Tat_fns]
  | true =>
  rw [g4] at c4
  have fx := fewPo_few g1
  have hl : l.length ≤ 1000000 := by have := fewB_len g4; omega
  have s1 : h1s notP [x.enc] = some (.tup [(notAt x).1.enc, .bool (notAt x).2]) := h1s_at wx fx
  have s2 : h1 trivP [x.enc] = some (.tup [.bool (triv x).1, .bool (triv x).2]) := h1_at wx
  have s3 := sHolds_at (c := .clo 43 [.cptr [.lst (l.map Bd.enc)]]) wx fx (L9_at (p := x.p) wl hl)
  have s4 := sBinds9_at wl hl
  have s5 := sRHolds_at wx fx wl
  have v : h1 okAt [x.enc] = some (.bool x.ok) := h1_at wx
  have d : h2 sameAt [x.enc, y.enc] = some (.bool (decide (x = y))) := h2_at wx wy
  have e1 := sameAt_self (wf_notAt x)
  obtain ⟨N, hN⟩ : ∃ A, A = notAt x := ⟨_, rfl⟩
  obtain ⟨T, hT⟩ : ∃ A, A = triv x := ⟨_, rfl⟩
  obtain ⟨W, hW⟩ : ∃ A, A = holdsAt (lookB l) x := ⟨_, rfl⟩
  obtain ⟨b, hb⟩ : ∃ A, A = x.ok := ⟨_, rfl⟩
  obtain ⟨m, hm⟩ : ∃ A, A = decide (x = y) := ⟨_, rfl⟩
  rw [← hN] at s1 e1
  rw [← hT] at s2
  rw [← hW] at s3 s5
  rw [← hb] at v
  rw [← hm] at d
  simp only [holdsPr, At.enc, Po.enc, Fr.enc] at c1 c2 c4 s1 s2 s3 s4 s5 v d e1 ⊢
  cases b <;> cases m <;> simp [lf4, c1, c2, c4, s1, s2, s3, s4, s5, v, d, e1, aw, mkClo, fillS, freeze1, Tat_mu, Tat_fns]
end Go.Proofs.YtepfpgnjpkcgmaaGreat
