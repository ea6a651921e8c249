/-
  What the reference's MakeAtom, and both sides' opposites, trivial atoms and what holds compute. No conditions beyond the lemmas' own hypotheses.
-/
import Derived.Test.YtepfpgnjpkcgmaaGreatAtomB
set_option linter.unusedSimpArgs false
set_option linter.unnecessarySimpa false
set_option linter.unusedVariables false
set_option linter.constructorNameAsVariable false

/-
 Atoms: the reference's making; opposites, what is trivial, what holds: both sides.
-/
namespace Go.Proofs.YtepfpgnjpkcgmaaGreat
open Go Go.Abs Go.Limbs
variable {base : Prot}
set_option maxRecDepth 20000
attribute [local irreducible] vc
attribute [local simp] pureS touchV freezeL fuel shiftV u64 au
def Trmk : Tab := (((((Tab.none.with 31 (pureS (g1 okPo))).with 51 (pureS (f1 signP))).with 82 (pureS sQOf)).with 53 (pureS (f1 negP))).with 97 (pureS (f2 quoP))).with 20 (pureS (gks scaleP))
theorem Trmk_ok : TabOk Tryz.prog base Trmk := Tab.with_ok (Tab.with_ok (Tab.with_ok (Tab.with_ok (Tab.with_ok (Tab.with_ok Tab.none_ok rpvalid_ok) rSign_ok) rofR_ok) rNeg_ok) rQuo_ok) rscale_ok
theorem Trmk_mu (f : FuncId) (a : List AVal) (H : Heap) : Trmk.mu f a H = none := (rfl)
theorem Trmk_fns : Trmk.fn 31 = (pureS (g1 okPo)) ∧ Trmk.fn 51 = (pureS (f1 signP)) ∧ Trmk.fn 82 = (pureS sQOf) ∧ Trmk.fn 53 = (pureS (f1 negP)) ∧ Trmk.fn 97 = (pureS (f2 quoP)) ∧ Trmk.fn 20 = (pureS (gks scaleP)) := ⟨rfl, rfl, rfl, rfl, rfl, rfl⟩
theorem k3_in {k : Int} (h : isSum (k3 k) = true) : k = 1 ∨ k = 2 ∨ k = 3 ∨ k = 4 := by
 unfold k3 at h
 split at h
 ·exact .inr (.inr (.inr (by assumption)))
 ·unfold isSum at h
  simp at h
  omega
theorem k3_out {k : Int} (h : isSum (k3 k) = false) : k < 1 ∨ (1 ≤ k ∧ 4 < k) := by
 unfold k3 at h
 split at h
 ·cases h
 ·unfold isSum at h
  simp at h
  omega
set_option maxHeartbeats 2000000 in
theorem rmake_ok : FnOk Tryz.prog base 83 (pureS (ki makeP)) := by
 refine pure_of_vc hmix Trmk_ok globNone low83 fun args z hs hf => ?_
 obtain ⟨k, p, wp, fp, rfl, rfl⟩ := ki_some hs
 refine ⟨by simp [lf83], ?_⟩
 have v2 : g1 okPo [p.enc] = some (.bool p.ok) := g1_at wp
 have v6 : f1 signP [p.c.enc] = some (.int .i64 (signF p.c)) := f1_at wp.2
 have o1 := ofR (n := 1) (d := 1) (by decide)
 rw [p1_eq] at o1
 have os := ofR (sign_small p.c)
 unfold makeP tripAt makeAt
 cases hsum : isSum (k3 k) with
 | false =>
  simp only [zAt, zPo, zF, At.enc, Po.enc, Fr.enc, List.map_nil]
  rcases k3_out hsum with h | ⟨h, h'⟩
  ·simp [lf83, h, zAt, zPo, zF, Trmk_mu, Trmk_fns]
  ·have hn : ¬ k < 1 := by omega
   simp [lf83, hn, h', zAt, zPo, zF, Trmk_mu, Trmk_fns]
 | true =>
 have hk := k3_in hsum
 cases hok : p.ok with
 | false =>
  rw [hok] at v2
  simp only [zAt, zPo, zF, At.enc, Po.enc, Fr.enc, List.map_nil] at v2 ⊢
  rcases hk with rfl | rfl | rfl | rfl <;> simp [lf83, v2, zAt, zPo, zF, Trmk_mu, Trmk_fns]
 | true =>
 rw [hok] at v2
 cases hps : p.ps with
 | nil =>
  obtain ⟨y, hy⟩ : ∃ y, y = ofQ (Rat.divInt (signF p.c) 1) := ⟨_, rfl⟩
  rw [← hy] at os ⊢
  simp only [At.enc, Po.enc, Fr.enc, hps, List.map_nil] at v2 v6 os ⊢
  rcases hk with rfl | rfl | rfl | rfl <;> simp [lf83, v2, v6, os, k3, Trmk_mu, Trmk_fns]
 | cons x r =>
  have hx : x ∈ p.ps := by rw [hps]; simp
  have hxo := ok_part hok hx
  have wx : x.c.wf := wp.1 x hx
  have hl0 : ((r.length : Int) + 1 == 0) = false := by simp; omega
  have hp1 : (0 : Int) < (r.length : Int) + 1 := by omega
  have hsx := s_ok hxo
  have vn : f1 negP [x.c.enc] = some (negF x.c).enc := f1_at wx
  have hsz : sizeF (k3 k) p = if (decide (k3 k ≠ 3) && x.c.s) = true then negF x.c else x.c := by
   unfold sizeF
   rw [hps, hsx]
   simp only [Bool.and_eq_true, decide_eq_true_eq]
   by_cases h1 : signF x.c < 0
   ·by_cases h2 : k3 k = 3
    ·rw [if_neg (fun h => h.2 h2), if_neg (fun h => h.1 h2)]
    ·rw [if_pos ⟨h1, h2⟩, if_pos ⟨h2, h1⟩]
   ·rw [if_neg (fun h => h1 h.1), if_neg (fun h => h1 h.2)]
  have wsz : (sizeF (k3 k) p).wf := wf_sizeF wp
  obtain ⟨sz, hsz'⟩ : ∃ s, s = sizeF (k3 k) p := ⟨_, rfl⟩
  rw [← hsz'] at wsz hsz ⊢
  have v7 := quoP_at (x := ofQ 1) (wf_ofQ 1) wsz
  obtain ⟨q, hq⟩ : ∃ q, q = quoF (ofQ 1) sz := ⟨_, rfl⟩
  have wq : q.1.wf := by rw [hq]; exact wf_quoF _ _
  rw [← hq] at v7 ⊢
  have v8 : gks scaleP [p.enc, q.1.enc] = some (pairPo (scalePo p q.1)) := gks_at wp wq fp
  obtain ⟨s, hs'⟩ : ∃ s, s = scalePo p q.1 := ⟨_, rfl⟩
  rw [← hs'] at v8 ⊢
  obtain ⟨y1, hy1⟩ : ∃ y, y = ofQ 1 := ⟨_, rfl⟩
  rw [← hy1] at o1 v7
  obtain ⟨nx, hnx⟩ : ∃ y, y = negF x.c := ⟨_, rfl⟩
  rw [← hnx] at vn hsz
  unfold pairPo at v8
  clear hsz'
  have hsz2 : sz = nx ∧ (decide (k3 k ≠ 3) && x.c.s) = true ∨ sz = x.c ∧ (decide (k3 k ≠ 3) && x.c.s) = false := by
   rw [hsz]
   cases (decide (k3 k ≠ 3) && x.c.s)
   ·exact .inr ⟨rfl, rfl⟩
   ·exact .inl ⟨rfl, rfl⟩
  clear hsz
  have e2b : ¬ s.2 = 0 → ((s.2 : Int) != 0) = true := fun h => by simp; omega
  have e1b : ¬ q.2 = 0 → ((q.2 : Int) == 0) = false := fun h => by simp; omega
  have e1c : ¬ q.2 = 0 → ((q.2 : Int) != 0) = true := fun h => by simp; omega
  cases hb : x.c.s <;> rw [hb] at hsz2 <;> rcases hk with rfl | rfl | rfl | rfl <;> rcases hsz2 with ⟨hz, hc⟩ | ⟨hz, hc⟩ <;> first | (exfalso; revert hc; decide) | skip
  all_goals
   clear hc
   rw [hz] at v7
   simp only [Bool.and_self, if_true]
   by_cases e1 : q.2 = 0
   ·by_cases e2 : s.2 = 0
    ·rw [if_pos e1, if_pos e2]
     rw [e1] at v7
     rw [e2] at v8
     simp only [At.enc, Po.enc, Fr.enc, hps, hb, List.map_cons, Pa.enc] at v2 v7 v8 vn o1 ⊢
     simp [lf83, v2, vn, hb, hl0, hp1, k3, Trmk_mu, Trmk_fns]
     rw [vc_regionW]
     refine ⟨[], ?_⟩
     simp [o1, v7, v8, fillS, Trmk_mu, Trmk_fns]
     all_goals exact keepT rfl
    ·rw [if_pos e1, if_neg e2]
     have e2c := e2b e2
     rw [e1] at v7
     simp only [zAt, zPo, zF, At.enc, Po.enc, Fr.enc, hps, hb, List.map_cons, List.map_nil, Pa.enc] at v2 v7 v8 vn o1 ⊢
     simp [lf83, v2, vn, hb, hl0, hp1, k3, Trmk_mu, Trmk_fns]
     rw [vc_regionW]
     refine ⟨[], ?_⟩
     simp [o1, v7, v8, e2, e2c, fillS, zAt, zPo, zF, Trmk_mu, Trmk_fns]
     all_goals exact keepT rfl
   ·rw [if_neg e1]
    have e1d := e1b e1
    have e1f := e1c e1
    simp only [zAt, zPo, zF, At.enc, Po.enc, Fr.enc, hps, hb, List.map_cons, List.map_nil, Pa.enc] at v2 v7 vn o1 ⊢
    simp [lf83, v2, vn, hb, hl0, hp1, k3, Trmk_mu, Trmk_fns]
    rw [vc_regionW]
    refine ⟨[], ?_⟩
    simp [o1, v7, e1, e1d, e1f, fillS, zAt, zPo, zF, Trmk_mu, Trmk_fns]
    all_goals exact keepT rfl
def sSays : List PVal → Option PVal
 | [.int .i64 k, a] => match decF a with | some c => some (.bool (soF k (signF c))) | none => none
 | _ => none
theorem sSays_at {k : Int} {c : Fr} (h : c.wf) : sSays [.int .i64 k, c.enc] = some (.bool (soF k (signF c))) := by simp only [sSays, decF_enc h]
def Trsy : Tab := Tab.none.with 51 (pureS (f1 signP))
theorem Trsy_ok : TabOk Tryz.prog base Trsy := Tab.with_ok Tab.none_ok rSign_ok
theorem Trsy_mu (f : FuncId) (a : List AVal) (H : Heap) : Trsy.mu f a H = none := (rfl)
theorem Trsy_fns : Trsy.fn 51 = (pureS (f1 signP)) := (rfl)
theorem rsays_ok : FnOk Tryz.prog base 111 (pureS sSays) := by
 refine pure_of_vc hmix Trsy_ok globNone low111 fun args z hs hf => ?_
 unfold sSays at hs
 split at hs
 case h_2 => cases hs
 rename_i k a
 split at hs
 case h_2 => cases hs
 rename_i c hc
 obtain ⟨rfl, wc⟩ := decF_some hc
 cases hs
 refine ⟨by simp [lf111], ?_⟩
 have v1 : f1 signP [c.enc] = some (.int .i64 (signF c)) := f1_at wc
 have e : ∀ n : Int, (k == n) = decide (k = n) := fun n => rfl
 have e2 : ∀ n : Int, (signF c == n) = decide (signF c = n) := fun n => rfl
 unfold soF
 simp only [Fr.enc] at v1 ⊢
 by_cases h1 : k = 1
 ·subst h1; simp [lf111, v1, Trsy_mu, Trsy_fns]
 ·by_cases h2 : k = 2
  ·subst h2; simp [lf111, v1, Trsy_mu, Trsy_fns]
  ·simp [lf111, v1, e, e2, h1, h2, Trsy_mu, Trsy_fns]
def triv (x : At) : Bool × Bool := if x.ok && isSum x.k && decide (x.p.ps = []) then (soF x.k (signF x.p.c), true) else (false, false)
theorem sum_ok {x : At} (h : x.ok = true) : decide (3 < x.k) = !isSum x.k := by
 unfold At.ok at h
 cases hs : isSum x.k with
 | true =>
  unfold isSum at hs
  simp at hs
  simp
  omega
 | false =>
  rw [hs] at h
  simp only [Bool.false_eq_true, if_false] at h
  split at h
  ·rename_i e; rw [e]; rfl
  ·split at h
   ·rename_i e; rw [e]; rfl
   ·cases h
end Go.Proofs.YtepfpgnjpkcgmaaGreat

/-
 Atoms: opposites and what holds, both sides.
-/
namespace Go.Proofs.YtepfpgnjpkcgmaaGreat
open Go Go.Abs Go.Limbs
variable {base : Prot}
set_option maxRecDepth 20000
attribute [local irreducible] vc
attribute [local simp] pureS touchV freezeL fuel shiftV u64 au
def notAt (x : At) : At × Bool :=
 if x.ok && (decide (x.k = 1) || decide (x.k = 2)) then
  (if (scalePo x.p (ofQ (-1))).2 = 0 then ((makeAt (3 - x.k) (scalePo x.p (ofQ (-1))).1).1, decide ((makeAt (3 - x.k) (scalePo x.p (ofQ (-1))).1).2.2 = 0)) else (zAt, false))
 else (zAt, false)
def notP (x : At) : PVal := .tup [(notAt x).1.enc, .bool (notAt x).2]
def holdsAt (lk : Int → Fr) (x : At) : Bool × Nat :=
 if isSum x.k && x.ok then (decide ((valuePo lk x.p).2 = 0) && soF x.k (signF (valuePo lk x.p).1), (valuePo lk x.p).2) else (false, 1)
def holdsPr (r : Bool × Nat) : PVal := .tup [.bool r.1, .int .i64 r.2]
def Trhd : Tab := ((Tab.none.with 47 (pureS (h1 okAt))).with 27 (pureS sRVal)).with 111 (pureS sSays)
theorem Trhd_ok : TabOk Tryz.prog base Trhd := Tab.with_ok (Tab.with_ok (Tab.with_ok Tab.none_ok rvatom_ok) rvalue_ok) rsays_ok
theorem Trhd_mu (f : FuncId) (a : List AVal) (H : Heap) : Trhd.mu f a H = none := (rfl)
theorem Trhd_fns : Trhd.fn 47 = (pureS (h1 okAt)) ∧ Trhd.fn 27 = (pureS sRVal) ∧ Trhd.fn 111 = (pureS sSays) := ⟨rfl, rfl, rfl⟩
def sRHolds : List PVal → Option PVal
 | [a, .lst vs] => match decAt a, decBs vs with | some x, some l => if x.p.few = true then some (holdsPr (holdsAt (lookB l) x)) else none | _, _ => none
 | _ => none
theorem sRHolds_at {x : At} {l : List Bd} (wx : x.p.wf) (fx : x.p.few = true) (wl : wfB l) : sRHolds [x.enc, .lst (l.map Bd.enc)] = some (holdsPr (holdsAt (lookB l) x)) := by simp only [sRHolds, decAt_enc wx, decBs_enc wl, fx, if_true]
theorem rholds_ok : FnOk Tryz.prog base 45 (pureS sRHolds) := by
 refine pure_of_vc hmix Trhd_ok globNone low45 fun args z hs hf => ?_
 unfold sRHolds at hs
 split at hs
 case h_2 => cases hs
 rename_i a vs
 split at hs
 case h_2 => cases hs
 rename_i x l hx hl
 obtain ⟨rfl, wx⟩ := decAt_some hx
 obtain ⟨rfl, wl⟩ := decBs_some hl
 split at hs
 case isFalse => cases hs
 rename_i fx
 cases hs
 refine ⟨by simp [lf45], ?_⟩
 have v2 : h1 okAt [x.enc] = some (.bool x.ok) := h1_at wx
 have v3 := sRVal_at wx fx wl
 have wv := wf_valuePo (lk := lookB l) wx
 have hk : x.ok = true → decide (3 < x.k) = !isSum x.k := sum_ok
 unfold holdsPr holdsAt
 obtain ⟨v, hv'⟩ : ∃ v, v = valuePo (lookB l) x.p := ⟨_, rfl⟩
 rw [← hv'] at v3 wv ⊢
 have v5 : sSays [.int .i64 x.k, v.1.enc] = some (.bool (soF x.k (signF v.1))) := sSays_at wv
 obtain ⟨b1, hb1⟩ : ∃ b, b = isSum x.k := ⟨_, rfl⟩
 obtain ⟨b2, hb2⟩ : ∃ b, b = x.ok := ⟨_, rfl⟩
 obtain ⟨b4, hb4⟩ : ∃ b, b = soF x.k (signF v.1) := ⟨_, rfl⟩
 rw [← hb1] at hk ⊢
 rw [← hb2] at v2 hk ⊢
 rw [← hb4] at v5
 unfold pairF at v3
 simp only [At.enc, Po.enc, Fr.enc] at v2 v3 v5 ⊢
 cases b2
 ·cases b1 <;> simp [lf45, v2, Trhd_mu, Trhd_fns]
 ·have hk' := hk rfl
  cases b1
  ·simp only [Bool.not_false] at hk'
   simp [lf45, v2, hk', Trhd_mu, Trhd_fns]
  ·simp only [Bool.not_true, Bool.and_self, if_true] at hk' ⊢
   rw [← hb4]
   by_cases e : v.2 = 0
   ·rw [e] at v3 ⊢
    simp [lf45, v2, v3, v5, hk', Trhd_mu, Trhd_fns]
   ·have eb : ((v.2 : Int) != 0) = true := by simp; omega
    simp [lf45, v2, v3, v5, hk', e, eb, Trhd_mu, Trhd_fns]
end Go.Proofs.YtepfpgnjpkcgmaaGreat
