/-
  What atom.Make and the reference's ValidAtom compute, for sums of at most a million parts.
-/
import Derived.Test.YtgbjjikaenlkmaaGreatAtomA
import Derived.Test.YtgbjjikaenlkmaaGreatLinH
set_option linter.unusedSimpArgs false
set_option linter.unnecessarySimpa false
set_option linter.unusedVariables false
set_option linter.constructorNameAsVariable false

/-
 Atoms made of sums: what is made; atom.Make and the reference's.
-/
namespace Go.Proofs.YtgbjjikaenlkmaaGreat
open Go Go.Abs Go.Limbs
variable {base : Prot}
set_option maxRecDepth 20000
attribute [local irreducible] vc
attribute [local simp] pureS touchV freezeL fuel shiftV u64 au
def k3 (k : Int) : Int := if k = 4 then 3 else k
def makeAt (k : Int) (p : Po) : At × Bool × Nat :=
 if isSum (k3 k) && p.ok then
  match p.ps with
  | [] => (⟨k3 k, ⟨[], ofQ (Rat.divInt (signF p.c) 1)⟩, 0, 0⟩, decide (k = 4), 0)
  | _ :: _ => if (quoF (ofQ 1) (sizeF (k3 k) p)).2 = 0 then
    (if (scalePo p (quoF (ofQ 1) (sizeF (k3 k) p)).1).2 = 0 then (⟨k3 k, (scalePo p (quoF (ofQ 1) (sizeF (k3 k) p)).1).1, 0, 0⟩, decide (k = 4), 0)
     else (zAt, false, (scalePo p (quoF (ofQ 1) (sizeF (k3 k) p)).1).2))
    else (zAt, false, (quoF (ofQ 1) (sizeF (k3 k) p)).2)
 else (zAt, false, 1)
def tripAt (r : At × Bool × Nat) : PVal := .tup [r.1.enc, .bool r.2.1, .int .i64 r.2.2]
def ki (g : Int → Po → PVal) : List PVal → Option PVal
 | [.int .i64 k, a] => match decPo a with | some p => if p.few = true then some (g k p) else none | none => none
 | _ => none
theorem ki_at {g : Int → Po → PVal} {k : Int} {p : Po} (h : p.wf) (f : p.few = true) : ki g [.int .i64 k, p.enc] = some (g k p) := by simp only [ki, decPo_enc h, f, if_true]
theorem ki_some {g : Int → Po → PVal} {args : List PVal} {z : PVal} (h : ki g args = some z) : ∃ (k : Int) (p : Po), p.wf ∧ p.few = true ∧ args = [.int .i64 k, p.enc] ∧ z = g k p := by
 unfold ki at h
 split at h
 ·split at h
  ·rename_i p hp
   obtain ⟨rfl, w⟩ := decPo_some hp
   split at h
   ·cases h; exact ⟨_, p, w, by assumption, rfl, rfl⟩
   ·cases h
  ·cases h
 ·cases h
def makeP (k : Int) (p : Po) : PVal := tripAt (makeAt k p)
theorem wf_makeAt {k : Int} {p : Po} : (makeAt k p).1.p.wf := by
 unfold makeAt
 split
 ·split
  ·exact ⟨fun x hx => (by cases hx), wf_ofQ _⟩
  ·split
   ·split
    ·exact wf_scalePo _ _
    ·exact wf_zPo
   ·exact wf_zPo
 ·exact wf_zPo
theorem sign_small (x : Fr) : (-1000 ≤ signF x ∧ signF x ≤ 1000) ∧ (-1000 ≤ (1 : Int) ∧ (1 : Int) ≤ 1000) := by
 unfold signF
 split
 ·rcases cmpQ_case x.q 0 with h | h | h <;> rw [h] <;> decide
 ·decide
theorem sign_neg {x : Fr} (h : x.ok = true) : signF (negF x) = - signF x := by
 obtain ⟨q, hq, rfl⟩ := Fr.ok_of h
 rw [negF_num hq, signF_num (Sm_neg hq), signF_num hq]
 rcases rat_tri q 0 with h | h | h
 ·rw [cmpQ_lt h, cmpQ_gt (by grind)]; rfl
 ·subst h; rfl
 ·rw [cmpQ_gt h, cmpQ_lt (by grind)]
theorem of_sign0 {x : Fr} (h : x.ok = true) (h0 : signF x = 0) : x = ofQ (Rat.divInt (signF x) 1) := by
 obtain ⟨q, hq, rfl⟩ := Fr.ok_of h
 rw [signF_num hq] at h0 ⊢
 rw [h0]
 have := cmpQ_zero_iff.1 h0
 subst this
 rfl
theorem nonnil_parts : ∀ {l : List Pa} {k : Int}, okParts k l = true → ∀ x ∈ l, x.c.n ≠ []
 | y :: r, k, h, x, hx => by
  unfold okParts at h
  rw [Bool.and_eq_true, Bool.and_eq_true, Bool.and_eq_true] at h
  rcases List.mem_cons.1 hx with rfl | hx
  ·simpa using h.1.2
  ·exact nonnil_parts h.2 x hx
theorem nonnil_part {p : Po} (h : p.ok = true) {x : Pa} (hx : x ∈ p.ps) : x.c.n ≠ [] := by
 unfold Po.ok at h
 rw [Bool.and_eq_true] at h
 exact nonnil_parts h.1 x hx
theorem size_sign {k : Int} {p : Po} (h : p.ok = true) : (signF (sizeF k p) == 0) = (match p.ps with | [] => signF p.c == 0 | _ => false) := by
 unfold sizeF
 cases hp : p.ps with
 | nil =>
  simp only
  split
  ·rw [sign_neg (ok_const h), Bool.eq_iff_iff, beq_iff_eq, beq_iff_eq]; omega
  ·rfl
 | cons x r =>
  have hx : x ∈ p.ps := by rw [hp]; simp
  have ho := ok_part h hx
  have hn := nonnil_part h hx
  simp only
  split
  ·rw [sign_neg ho, Bool.eq_false_iff, ne_eq, beq_iff_eq]
   intro h0
   have := sign_nil ho
   rw [show (signF x.c == 0) = true from by rw [beq_iff_eq]; omega] at this
   exact hn (of_decide_eq_true this.symm)
  ·rw [sign_nil ho]
   exact decide_eq_false hn
def Tmk : Tab := (((((((Tab.none.with 76 (pureS sSum)).with 68 (pureS (g1 okPo))).with 77 (pureS (g1v Po.enc))).with 78 (pureS sSize9)).with 71 (pureS (f1 signP))).with 43 (pureS sQOf)).with 79 (pureS (f2 quoP))).with 41 (pureS (gks scaleP))
theorem Tmk_ok : TabOk Tryz.prog base Tmk := Tab.with_ok (Tab.with_ok (Tab.with_ok (Tab.with_ok (Tab.with_ok (Tab.with_ok (Tab.with_ok (Tab.with_ok Tab.none_ok asum_ok) lvalid_ok) lcopy_ok) asize_ok) qsign_ok) qof_ok) qquo_ok) scale_ok
theorem Tmk_mu (f : FuncId) (a : List AVal) (H : Heap) : Tmk.mu f a H = none := (rfl)
theorem Tmk_fns : Tmk.fn 76 = (pureS sSum) ∧ Tmk.fn 68 = (pureS (g1 okPo)) ∧ Tmk.fn 77 = (pureS (g1v Po.enc)) ∧ Tmk.fn 78 = (pureS sSize9) ∧ Tmk.fn 71 = (pureS (f1 signP)) ∧ Tmk.fn 43 = (pureS sQOf) ∧ Tmk.fn 79 = (pureS (f2 quoP)) ∧ Tmk.fn 41 = (pureS (gks scaleP)) := ⟨rfl, rfl, rfl, rfl, rfl, rfl, rfl, rfl⟩
theorem amake_ok : FnOk Tryz.prog base 45 (pureS (ki makeP)) := by
 refine pure_of_vc hmix Tmk_ok globNone low45 fun args z hs hf => ?_
 obtain ⟨k, p, wp, fp, rfl, rfl⟩ := ki_some hs
 refine ⟨by simp [lf45], ?_⟩
 have ek : (k == 4) = decide (k = 4) := rfl
 obtain ⟨kk, hkk⟩ : ∃ kk, kk = k3 k := ⟨_, rfl⟩
 have v1 := sSum_at kk
 have v2 : g1 okPo [p.enc] = some (.bool p.ok) := g1_at wp
 have v4 : sSize9 [.int .i64 kk, p.enc] = some (sizeF kk p).enc := sSize9_at wp
 have v5 : f1 signP [(sizeF kk p).enc] = some (.int .i64 (signF (sizeF kk p))) := f1_at (wf_sizeF wp)
 have v6 : f1 signP [p.c.enc] = some (.int .i64 (signF p.c)) := f1_at wp.2
 have o1 := ofR (n := 1) (d := 1) (by decide)
 rw [p1_eq] at o1
 have os := ofR (sign_small p.c)
 unfold makeP tripAt makeAt
 rw [← hkk]
 have hk : (k = 4 ∧ kk = 3 ∧ decide (k = 4) = true) ∨ (¬ k = 4 ∧ kk = k ∧ decide (k = 4) = false) := by
  unfold k3 at hkk
  by_cases h : k = 4
  ·rw [if_pos h] at hkk; exact .inl ⟨h, hkk, decide_eq_true h⟩
  ·rw [if_neg h] at hkk; exact .inr ⟨h, hkk, decide_eq_false h⟩
 cases hsum : isSum kk with
 | false =>
  rw [hsum] at v1
  simp only [zAt, zPo, zF, At.enc, Po.enc, Fr.enc, List.map_nil] at v1 ⊢
  rcases hk with ⟨rfl, rfl, hd⟩ | ⟨h4, rfl, hd⟩
  ·simp [lf45, v1, zAt, zPo, zF, Tmk_mu, Tmk_fns]
  ·simp [lf45, v1, ek, h4, zAt, zPo, zF, Tmk_mu, Tmk_fns]
 | true =>
 rw [hsum] at v1
 cases hok : p.ok with
 | false =>
  rw [hok] at v2
  simp only [zAt, zPo, zF, At.enc, Po.enc, Fr.enc, List.map_nil] at v1 v2 ⊢
  rcases hk with ⟨rfl, rfl, hd⟩ | ⟨h4, rfl, hd⟩
  ·simp [lf45, v1, v2, zAt, zPo, zF, Tmk_mu, Tmk_fns]
  ·simp [lf45, v1, v2, ek, h4, zAt, zPo, zF, Tmk_mu, Tmk_fns]
 | true =>
 rw [hok] at v2
 have v3 : g1v Po.enc [p.enc] = some p.enc := g1v_at wp fp hok
 have hsg := size_sign (k := kk) hok
 obtain ⟨sz, hsz⟩ : ∃ s, s = sizeF kk p := ⟨_, rfl⟩
 have wsz : sz.wf := by rw [hsz]; exact wf_sizeF wp
 rw [← hsz] at v4 v5 hsg ⊢
 cases hps : p.ps with
 | nil =>
  rw [hps] at hsg
  simp only at hsg
  simp only [Bool.and_self, if_true]
  by_cases h0 : signF p.c = 0
  ·have hc := of_sign0 (ok_const hok) h0
   rw [show (signF p.c == 0) = true from by rw [h0]; rfl] at hsg
   rw [← hc]
   simp only [At.enc, Po.enc, Fr.enc, hps, List.map_nil] at v1 v2 v3 v4 v5 ⊢
   rcases hk with ⟨rfl, rfl, hd⟩ | ⟨h4, rfl, hd⟩
   ·simp [lf45, v1, v2, v3, v4, v5, hsg, Tmk_mu, Tmk_fns]
   ·simp [lf45, v1, v2, v3, v4, v5, hsg, ek, h4, Tmk_mu, Tmk_fns]
  ·rw [show (signF p.c == 0) = false from by simpa using h0] at hsg
   obtain ⟨y, hy⟩ : ∃ y, y = ofQ (Rat.divInt (signF p.c) 1) := ⟨_, rfl⟩
   rw [← hy] at os ⊢
   simp only [At.enc, Po.enc, Fr.enc, hps, List.map_nil] at v1 v2 v3 v4 v5 v6 os ⊢
   rcases hk with ⟨rfl, rfl, hd⟩ | ⟨h4, rfl, hd⟩
   ·simp [lf45, v1, v2, v3, v4, v5, v6, os, hsg, Tmk_mu, Tmk_fns]
   ·simp [lf45, v1, v2, v3, v4, v5, v6, os, hsg, ek, h4, Tmk_mu, Tmk_fns]
 | cons x r =>
  rw [hps] at hsg
  simp only at hsg
  have hl0 : ((r.length : Int) + 1 == 0) = false := by simp; omega
  have v7 := quoP_at (x := ofQ 1) (wf_ofQ 1) wsz
  obtain ⟨q, hq⟩ : ∃ q, q = quoF (ofQ 1) sz := ⟨_, rfl⟩
  have wq : q.1.wf := by rw [hq]; exact wf_quoF _ _
  rw [← hq] at v7 ⊢
  have v8 : gks scaleP [p.enc, q.1.enc] = some (pairPo (scalePo p q.1)) := gks_at wp wq fp
  obtain ⟨s, hs'⟩ : ∃ s, s = scalePo p q.1 := ⟨_, rfl⟩
  rw [← hs'] at v8 ⊢
  obtain ⟨x1, hx1⟩ : ∃ x, x = ofQ 1 := ⟨_, rfl⟩
  rw [← hx1] at o1 v7
  unfold pairPo at v8
  simp only [Bool.and_self, if_true]
  by_cases e1 : q.2 = 0
  ·have e1b : ((q.2 : Int) == 0) = true := by rw [e1]; rfl
   by_cases e2 : s.2 = 0
   ·rw [if_pos e1, if_pos e2]
    rw [e1] at v7
    rw [e2] at v8
    simp only [At.enc, Po.enc, Fr.enc, hps, List.map_cons] at v1 v2 v3 v4 v5 v7 v8 o1 ⊢
    rcases hk with ⟨rfl, rfl, hd⟩ | ⟨h4, rfl, hd⟩
    ·simp [lf45, v1, v2, v3, v4, v5, hsg, hl0, Tmk_mu, Tmk_fns]
     rw [vc_regionW]
     refine ⟨[], ?_⟩
     simp [o1, v7, v8, fillS, Tmk_mu, Tmk_fns]
    ·simp [lf45, v1, v2, v3, v4, v5, hsg, hl0, ek, h4, Tmk_mu, Tmk_fns]
     rw [vc_regionW]
     refine ⟨[], ?_⟩
     simp [o1, v7, v8, fillS, h4, Tmk_mu, Tmk_fns]
   ·rw [if_pos e1, if_neg e2]
    have e2b : ((s.2 : Int) != 0) = true := by simp; omega
    rw [e1] at v7
    simp only [zAt, zPo, zF, At.enc, Po.enc, Fr.enc, hps, List.map_cons, List.map_nil] at v1 v2 v3 v4 v5 v7 v8 o1 ⊢
    rcases hk with ⟨rfl, rfl, hd⟩ | ⟨h4, rfl, hd⟩
    ·simp [lf45, v1, v2, v3, v4, v5, hsg, hl0, Tmk_mu, Tmk_fns]
     rw [vc_regionW]
     refine ⟨[], ?_⟩
     simp [o1, v7, v8, e2, e2b, zAt, zPo, zF, fillS, Tmk_mu, Tmk_fns]
    ·simp [lf45, v1, v2, v3, v4, v5, hsg, hl0, ek, h4, Tmk_mu, Tmk_fns]
     rw [vc_regionW]
     refine ⟨[], ?_⟩
     simp [o1, v7, v8, e2, e2b, zAt, zPo, zF, fillS, Tmk_mu, Tmk_fns]
  ·rw [if_neg e1]
   have e1b : ((q.2 : Int) == 0) = false := by simp; omega
   have e1c : ((q.2 : Int) != 0) = true := by simp; omega
   simp only [zAt, zPo, zF, At.enc, Po.enc, Fr.enc, hps, List.map_cons, List.map_nil] at v1 v2 v3 v4 v5 v7 o1 ⊢
   rcases hk with ⟨rfl, rfl, hd⟩ | ⟨h4, rfl, hd⟩
   ·simp [lf45, v1, v2, v3, v4, v5, hsg, hl0, Tmk_mu, Tmk_fns]
    rw [vc_regionW]
    refine ⟨[], ?_⟩
    simp [o1, v7, e1, e1b, e1c, zAt, zPo, zF, fillS, Tmk_mu, Tmk_fns]
   ·simp [lf45, v1, v2, v3, v4, v5, hsg, hl0, ek, h4, Tmk_mu, Tmk_fns]
    rw [vc_regionW]
    refine ⟨[], ?_⟩
    simp [o1, v7, e1, e1b, e1c, zAt, zPo, zF, fillS, Tmk_mu, Tmk_fns]
end Go.Proofs.YtgbjjikaenlkmaaGreat

/-
 The reference's atoms: what is one, what is made.
-/
namespace Go.Proofs.YtgbjjikaenlkmaaGreat
open Go Go.Abs Go.Limbs
variable {base : Prot}
set_option maxRecDepth 20000
attribute [local irreducible] vc
attribute [local simp] pureS touchV freezeL fuel shiftV u64 au
end Go.Proofs.YtgbjjikaenlkmaaGreat
