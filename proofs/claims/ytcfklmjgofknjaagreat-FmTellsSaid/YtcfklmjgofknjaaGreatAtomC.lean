/-
  What the reference's MakeAtom, and both sides' opposites, trivial atoms and what holds compute. No conditions beyond the lemmas' own hypotheses.
-/
import Derived.Test.YtcfklmjgofknjaaGreatAtomB
set_option linter.unusedSimpArgs false
set_option linter.unnecessarySimpa false
set_option linter.unusedVariables false
set_option linter.constructorNameAsVariable false

/-
 Atoms: the reference's making; opposites, what is trivial, what holds: both sides.
-/
namespace Go.Proofs.YtcfklmjgofknjaaGreat
open Go Go.Abs Go.Limbs
variable {base : Prot}
set_option maxRecDepth 20000
attribute [local irreducible] vc
attribute [local simp] pureS touchV freezeL fuel shiftV u64 au
def Trmk : Tab := (((((Tab.none.with 62 (pureS (g1 okPo))).with 72 (pureS (f1 signP))).with 31 (pureS sQOf)).with 51 (pureS (f1 negP))).with 73 (pureS (f2 quoP))).with 52 (pureS (gks scaleP))
theorem Trmk_ok : TabOk Tryz.prog base Trmk := Tab.with_ok (Tab.with_ok (Tab.with_ok (Tab.with_ok (Tab.with_ok (Tab.with_ok Tab.none_ok rpvalid_ok) rSign_ok) rofR_ok) rNeg_ok) rQuo_ok) rscale_ok
theorem Trmk_mu (f : FuncId) (a : List AVal) (H : Heap) : Trmk.mu f a H = none := (rfl)
theorem Trmk_fns : Trmk.fn 62 = (pureS (g1 okPo)) ∧ Trmk.fn 72 = (pureS (f1 signP)) ∧ Trmk.fn 31 = (pureS sQOf) ∧ Trmk.fn 51 = (pureS (f1 negP)) ∧ Trmk.fn 73 = (pureS (f2 quoP)) ∧ Trmk.fn 52 = (pureS (gks scaleP)) := ⟨rfl, rfl, rfl, rfl, rfl, rfl⟩
theorem k3_in {k : Int} (h : isSum (k3 k) = true) : k = 1 ∨ k = 2 ∨ k = 3 ∨ k = 4 := by
 unfold k3 at h
 split at h
 ·exact .inr (.inr (.inr (by assumption)))
 ·unfold isSum at h
  simp at h
  omega
theorem k3_out {k : Int} (h : isSum (k3 k) = false) : k < 1 ∨ (1 ≤ k ∧ 4 < k) := by
 unfold k3 at h
 split at h
 ·cases h
 ·unfold isSum at h
  simp at h
  omega
set_option maxHeartbeats 2000000 in
theorem rmake_ok : FnOk Tryz.prog base 32 (pureS (ki makeP)) := by
 refine pure_of_vc hmix Trmk_ok globNone low32 fun args z hs hf => ?_
 obtain ⟨k, p, wp, fp, rfl, rfl⟩ := ki_some hs
 refine ⟨by simp [lf32], ?_⟩
 have v2 : g1 okPo [p.enc] = some (.bool p.ok) := g1_at wp
 have v6 : f1 signP [p.c.enc] = some (.int .i64 (signF p.c)) := f1_at wp.2
 have o1 := ofR (n := 1) (d := 1) (by decide)
 rw [p1_eq] at o1
 have os := ofR (sign_small p.c)
 unfold makeP tripAt makeAt
 cases hsum : isSum (k3 k) with
 | false =>
  simp only [zAt, zPo, zF, At.enc, Po.enc, Fr.enc, List.map_nil]
  rcases k3_out hsum with h | ⟨h, h'⟩
  ·simp [lf32, h, zAt, zPo, zF, Trmk_mu, Trmk_fns]
  ·have hn : ¬ k < 1 := by omega
   simp [lf32, hn, h', zAt, zPo, zF, Trmk_mu, Trmk_fns]
 | true =>
 have hk := k3_in hsum
 cases hok : p.ok with
 | false =>
  rw [hok] at v2
  simp only [zAt, zPo, zF, At.enc, Po.enc, Fr.enc, List.map_nil] at v2 ⊢
  rcases hk with rfl | rfl | rfl | rfl <;> simp [lf32, v2, zAt, zPo, zF, Trmk_mu, Trmk_fns]
 | true =>
 rw [hok] at v2
 cases hps : p.ps with
 | nil =>
  obtain ⟨y, hy⟩ : ∃ y, y = ofQ (Rat.divInt (signF p.c) 1) := ⟨_, rfl⟩
  rw [← hy] at os ⊢
  simp only [At.enc, Po.enc, Fr.enc, hps, List.map_nil] at v2 v6 os ⊢
  rcases hk with rfl | rfl | rfl | rfl <;> simp [lf32, v2, v6, os, k3, Trmk_mu, Trmk_fns]
 | cons x r =>
  have hx : x ∈ p.ps := by rw [hps]; simp
  have hxo := ok_part hok hx
  have wx : x.c.wf := wp.1 x hx
  have hl0 : ((r.length : Int) + 1 == 0) = false := by simp; omega
  have hp1 : (0 : Int) < (r.length : Int) + 1 := by omega
  have hsx := s_ok hxo
  have vn : f1 negP [x.c.enc] = some (negF x.c).enc := f1_at wx
  have hsz : sizeF (k3 k) p = if (decide (k3 k ≠ 3) && x.c.s) = true then negF x.c else x.c := by
   unfold sizeF
   rw [hps, hsx]
   simp only [Bool.and_eq_true, decide_eq_true_eq]
   by_cases h1 : signF x.c < 0
   ·by_cases h2 : k3 k = 3
    ·rw [if_neg (fun h => h.2 h2), if_neg (fun h => h.1 h2)]
    ·rw [if_pos ⟨h1, h2⟩, if_pos ⟨h2, h1⟩]
   ·rw [if_neg (fun h => h1 h.1), if_neg (fun h => h1 h.2)]
  have wsz : (sizeF (k3 k) p).wf := wf_sizeF wp
  obtain ⟨sz, hsz'⟩ : ∃ s, s = sizeF (k3 k) p := ⟨_, rfl⟩
  rw [← hsz'] at wsz hsz ⊢
  have v7 := quoP_at (x := ofQ 1) (wf_ofQ 1) wsz
  obtain ⟨q, hq⟩ : ∃ q, q = quoF (ofQ 1) sz := ⟨_, rfl⟩
  have wq : q.1.wf := by rw [hq]; exact wf_quoF _ _
  rw [← hq] at v7 ⊢
  have v8 : gks scaleP [p.enc, q.1.enc] = some (pairPo (scalePo p q.1)) := gks_at wp wq fp
  obtain ⟨s, hs'⟩ : ∃ s, s = scalePo p q.1 := ⟨_, rfl⟩
  rw [← hs'] at v8 ⊢
  obtain ⟨y1, hy1⟩ : ∃ y, y = ofQ 1 := ⟨_, rfl⟩
  rw [← hy1] at o1 v7
  obtain ⟨nx, hnx⟩ : ∃ y, y = negF x.c := ⟨_, rfl⟩
  rw [← hnx] at vn hsz
  unfold pairPo at v8
  clear hsz'
  have hsz2 : sz = nx ∧ (decide (k3 k ≠ 3) && x.c.s) = true ∨ sz = x.c ∧ (decide (k3 k ≠ 3) && x.c.s) = false := by
   rw [hsz]
   cases (decide (k3 k ≠ 3) && x.c.s)
   ·exact .inr ⟨rfl, rfl⟩
   ·exact .inl ⟨rfl, rfl⟩
  clear hsz
  have e2b : ¬ s.2 = 0 → ((s.2 : Int) != 0) = true := fun h => by simp; omega
  have e1b : ¬ q.2 = 0 → ((q.2 : Int) == 0) = false := fun h => by simp; omega
  have e1c : ¬ q.2 = 0 → ((q.2 : Int) != 0) = true := fun h => by simp; omega
  cases hb : x.c.s <;> rw [hb] at hsz2 <;> rcases hk with rfl | rfl | rfl | rfl <;> rcases hsz2 with ⟨hz, hc⟩ | ⟨hz, hc⟩ <;> first | (exfalso; revert hc; decide) | skip
  all_goals
   clear hc
   rw [hz] at v7
   simp only [Bool.and_self, if_true]
   by_cases e1 : q.2 = 0
   ·by_cases e2 : s.2 = 0
    ·rw [if_pos e1, if_pos e2]
     rw [e1] at v7
     rw [e2] at v8
     simp only [At.enc, Po.enc, Fr.enc, hps, hb, List.map_cons, Pa.enc] at v2 v7 v8 vn o1 ⊢
     simp [lf32, v2, vn, hb, hl0, hp1, k3, Trmk_mu, Trmk_fns]
     rw [vc_regionW]
     refine ⟨[], ?_⟩
     simp [o1, v7, v8, fillS, Trmk_mu, Trmk_fns]
     all_goals exact keepT rfl
    ·rw [if_pos e1, if_neg e2]
     have e2c := e2b e2
     rw [e1] at v7
     simp only [zAt, zPo, zF, At.enc, Po.enc, Fr.enc, hps, hb, List.map_cons, List.map_nil, Pa.enc] at v2 v7 v8 vn o1 ⊢
     simp [lf32, v2, vn, hb, hl0, hp1, k3, Trmk_mu, Trmk_fns]
     rw [vc_regionW]
     refine ⟨[], ?_⟩
     simp [o1, v7, v8, e2, e2c, fillS, zAt, zPo, zF, Trmk_mu, Trmk_fns]
     all_goals exact keepT rfl
   ·rw [if_neg e1]
    have e1d := e1b e1
    have e1f := e1c e1
    simp only [zAt, zPo, zF, At.enc, Po.enc, Fr.enc, hps, hb, List.map_cons, List.map_nil, Pa.enc] at v2 v7 vn o1 ⊢
    simp [lf32, v2, vn, hb, hl0, hp1, k3, Trmk_mu, Trmk_fns]
    rw [vc_regionW]
    refine ⟨[], ?_⟩
    simp [o1, v7, e1, e1d, e1f, fillS, zAt, zPo, zF, Trmk_mu, Trmk_fns]
    all_goals exact keepT rfl
def sSays : List PVal → Option PVal
 | [.int .i64 k, a] => match decF a with | some c => some (.bool (soF k (signF c))) | none => none
 | _ => none
theorem sSays_at {k : Int} {c : Fr} (h : c.wf) : sSays [.int .i64 k, c.enc] = some (.bool (soF k (signF c))) := by simp only [sSays, decF_enc h]
def Trsy : Tab := Tab.none.with 72 (pureS (f1 signP))
theorem Trsy_ok : TabOk Tryz.prog base Trsy := Tab.with_ok Tab.none_ok rSign_ok
theorem Trsy_mu (f : FuncId) (a : List AVal) (H : Heap) : Trsy.mu f a H = none := (rfl)
theorem Trsy_fns : Trsy.fn 72 = (pureS (f1 signP)) := (rfl)
theorem rsays_ok : FnOk Tryz.prog base 65 (pureS sSays) := by
 refine pure_of_vc hmix Trsy_ok globNone low65 fun args z hs hf => ?_
 unfold sSays at hs
 split at hs
 case h_2 => cases hs
 rename_i k a
 split at hs
 case h_2 => cases hs
 rename_i c hc
 obtain ⟨rfl, wc⟩ := decF_some hc
 cases hs
 refine ⟨by simp [lf65], ?_⟩
 have v1 : f1 signP [c.enc] = some (.int .i64 (signF c)) := f1_at wc
 have e : ∀ n : Int, (k == n) = decide (k = n) := fun n => rfl
 have e2 : ∀ n : Int, (signF c == n) = decide (signF c = n) := fun n => rfl
 unfold soF
 simp only [Fr.enc] at v1 ⊢
 by_cases h1 : k = 1
 ·subst h1; simp [lf65, v1, Trsy_mu, Trsy_fns]
 ·by_cases h2 : k = 2
  ·subst h2; simp [lf65, v1, Trsy_mu, Trsy_fns]
  ·simp [lf65, v1, e, e2, h1, h2, Trsy_mu, Trsy_fns]
def Trsat : Tab := Tab.none.with 74 (pureS (g2 samePo))
theorem Trsat_ok : TabOk Tryz.prog base Trsat := Tab.with_ok Tab.none_ok rpsame_ok
theorem Trsat_mu (f : FuncId) (a : List AVal) (H : Heap) : Trsat.mu f a H = none := (rfl)
theorem Trsat_fns : Trsat.fn 74 = (pureS (g2 samePo)) := (rfl)
theorem rsamea_ok : FnOk Tryz.prog base 33 (pureS (h2 sameAt)) := by
 refine pure_of_vc hmix Trsat_ok globNone low33 fun args z hs hf => ?_
 obtain ⟨x, y, wx, wy, rfl, rfl⟩ := h2_some hs
 refine ⟨by simp [lf33], ?_⟩
 have v1 : g2 samePo [x.p.enc, y.p.enc] = some (.bool (decide (x.p = y.p))) := g2_at wx wy
 unfold sameAt
 rw [show decide (x = y) = (decide (x.k = y.k) && (decide (x.a = y.a) && (decide (x.b = y.b) && decide (x.p = y.p)))) from by rw [Bool.eq_iff_iff]; simp [at_eq]]
 have ek : (x.k == y.k) = decide (x.k = y.k) := rfl
 have ea : (x.a == y.a) = decide (x.a = y.a) := rfl
 have eb : (x.b == y.b) = decide (x.b = y.b) := rfl
 obtain ⟨q1, h1⟩ : ∃ q, q = decide (x.k = y.k) := ⟨_, rfl⟩
 obtain ⟨q2, h2⟩ : ∃ q, q = decide (x.a = y.a) := ⟨_, rfl⟩
 obtain ⟨q3, h3⟩ : ∃ q, q = decide (x.b = y.b) := ⟨_, rfl⟩
 obtain ⟨q4, h4⟩ : ∃ q, q = decide (x.p = y.p) := ⟨_, rfl⟩
 rw [← h1] at ek ⊢
 rw [← h2] at ea ⊢
 rw [← h3] at eb ⊢
 rw [← h4] at v1 ⊢
 simp only [At.enc, Po.enc, Fr.enc] at v1 ⊢
 cases q1 <;> cases q2 <;> cases q3 <;> simp [lf33, v1, ek, ea, eb, Trsat_mu, Trsat_fns]
def triv (x : At) : Bool × Bool := if x.ok && isSum x.k && decide (x.p.ps = []) then (soF x.k (signF x.p.c), true) else (false, false)
theorem sSo_at (k s : Int) : sSo [.int .i64 k, .int .i64 s] = some (.bool (soF k s)) := rfl
theorem sum_ok {x : At} (h : x.ok = true) : decide (3 < x.k) = !isSum x.k := by
 unfold At.ok at h
 cases hs : isSum x.k with
 | true =>
  unfold isSum at hs
  simp at hs
  simp
  omega
 | false =>
  rw [hs] at h
  simp only [Bool.false_eq_true, if_false] at h
  split at h
  ·rename_i e; rw [e]; rfl
  ·split at h
   ·rename_i e; rw [e]; rfl
   ·cases h
end Go.Proofs.YtcfklmjgofknjaaGreat

/-
 Atoms: opposites and what holds, both sides.
-/
namespace Go.Proofs.YtcfklmjgofknjaaGreat
open Go Go.Abs Go.Limbs
variable {base : Prot}
set_option maxRecDepth 20000
attribute [local irreducible] vc
attribute [local simp] pureS touchV freezeL fuel shiftV u64 au
def notAt (x : At) : At × Bool :=
 if x.ok && (decide (x.k = 1) || decide (x.k = 2)) then
  (if (scalePo x.p (ofQ (-1))).2 = 0 then ((makeAt (3 - x.k) (scalePo x.p (ofQ (-1))).1).1, decide ((makeAt (3 - x.k) (scalePo x.p (ofQ (-1))).1).2.2 = 0)) else (zAt, false))
 else (zAt, false)
def notP (x : At) : PVal := .tup [(notAt x).1.enc, .bool (notAt x).2]
theorem len_scaleF {k : Fr} : ∀ {l r : List Pa}, scaleF k l = some r → r.length = l.length
 | [], r, h => by rw [scaleF] at h; cases h; rfl
 | x :: l, r, h => by
  rw [scaleF] at h
  split at h
  ·rw [Option.map_eq_some_iff] at h
   obtain ⟨s, hs, rfl⟩ := h
   rw [List.length_cons, List.length_cons, len_scaleF hs]
  ·cases h
theorem few_scalePo {p : Po} {k : Fr} (h : p.few = true) : (scalePo p k).1.few = true := by
 have h0 := few_le h
 have key : (scalePo p k).1.ps.length ≤ p.ps.length := by
  unfold scalePo
  split
  ·split
   ·split
    ·exact Nat.zero_le _
    ·cases hs : scaleF k p.ps with
     | none => exact Nat.zero_le _
     | some r => exact Nat.le_of_eq (len_scaleF hs)
   ·exact Nat.zero_le _
  ·exact Nat.zero_le _
 unfold Po.few
 exact decide_eq_true (by omega)
theorem scalePo_err {p : Po} {k : Fr} (h : ¬ (scalePo p k).2 = 0) : (scalePo p k).1 = zPo := by
 unfold scalePo at h ⊢
 split at h
 ·rename_i h1
  rw [if_pos h1]
  split at h
  ·rename_i h2
   rw [if_pos h2]
   split at h
   ·exact absurd rfl h
   ·rename_i h3
    rw [if_neg h3]
    cases hs : scaleF k p.ps with
    | none => rfl
    | some r => rw [hs] at h; exact absurd rfl h
  ·rename_i h2
   rw [if_neg h2]
 ·rename_i h1
  rw [if_neg h1]
theorem make_zPo (k : Int) : makeAt k zPo = (zAt, false, 1) := by
 unfold makeAt
 rw [ok_zPo, Bool.and_false]
 rfl
def Tnt : Tab := (((Tab.none.with 55 (pureS (h1 okAt))).with 95 (pureS sQOf)).with 43 (pureS (gks scaleP))).with 47 (pureS (ki makeP))
theorem Tnt_ok : TabOk Tryz.prog base Tnt := Tab.with_ok (Tab.with_ok (Tab.with_ok (Tab.with_ok Tab.none_ok avalid_ok) qof_ok) scale_ok) amake_ok
theorem Tnt_mu (f : FuncId) (a : List AVal) (H : Heap) : Tnt.mu f a H = none := (rfl)
theorem Tnt_fns : Tnt.fn 55 = (pureS (h1 okAt)) ∧ Tnt.fn 95 = (pureS sQOf) ∧ Tnt.fn 43 = (pureS (gks scaleP)) ∧ Tnt.fn 47 = (pureS (ki makeP)) := ⟨rfl, rfl, rfl, rfl⟩
set_option maxHeartbeats 2000000 in
theorem anot_ok : FnOk Tryz.prog base 81 (pureS (h1s notP)) := by
 refine pure_of_vc hmix Tnt_ok globNone low81 fun args z hs hf => ?_
 obtain ⟨⟨k, p, a, b⟩, wx, fx, rfl, rfl⟩ := h1s_some hs
 refine ⟨by simp [lf81], ?_⟩
 simp only at wx fx
 have v1 : h1 okAt [(At.mk k p a b).enc] = some (.bool (At.mk k p a b).ok) := h1_at wx
 have ek : ∀ n : Int, (k == n) = decide (k = n) := fun n => rfl
 have nk : ∀ n : Int, (k != n) = decide (k ≠ n) := fun n => by rw [bne, ek]; simp
 unfold notP notAt
 obtain ⟨o, ho⟩ : ∃ o, o = (At.mk k p a b).ok := ⟨_, rfl⟩
 rw [← ho] at v1 ⊢
 simp only
 cases o with
 | false =>
  simp only [At.enc, Po.enc, Fr.enc, zAt, zPo, zF, List.map_nil] at v1 ⊢
  simp [lf81, v1, zAt, zPo, zF, Tnt_mu, Tnt_fns]
 | true =>
 by_cases hk : k = 1 ∨ k = 2
 ·have hk2 : (decide (k = 1) || decide (k = 2)) = true := by simpa using hk
  rw [hk2]
  have om1 := ofR (n := -1) (d := 1) (by decide)
  have w1 : IntKind.i64.wrap 1 = 1 := rfl
  have w2 : IntKind.i64.wrap 2 = 2 := rfl
  rw [m1_eq] at om1
  have v2 : gks scaleP [p.enc, (ofQ (-1)).enc] = some (pairPo (scalePo p (ofQ (-1)))) := gks_at wx (wf_ofQ _) fx
  have ws := wf_scalePo p (ofQ (-1))
  have fs := few_scalePo (k := ofQ (-1)) fx
  obtain ⟨s, hs'⟩ : ∃ s, s = scalePo p (ofQ (-1)) := ⟨_, rfl⟩
  rw [← hs'] at v2 ws fs ⊢
  have v3 : ki makeP [.int .i64 (3 - k), s.1.enc] = some (tripAt (makeAt (3 - k) s.1)) := ki_at ws fs
  obtain ⟨m, hm⟩ : ∃ m, m = makeAt (3 - k) s.1 := ⟨_, rfl⟩
  rw [← hm] at v3 ⊢
  obtain ⟨y, hy⟩ : ∃ y, y = ofQ (-1) := ⟨_, rfl⟩
  rw [← hy] at v2 om1
  unfold pairPo at v2
  unfold tripAt at v3
  simp only [Bool.and_self, if_true]
  by_cases e : s.2 = 0
  ·rw [if_pos e]
   rw [e] at v2
   simp only
   have em : ((m.2.2 : Int) == 0) = decide (m.2.2 = 0) := by rw [Bool.eq_iff_iff]; simp
   obtain ⟨u, hu⟩ : ∃ u, u = decide (m.2.2 = 0) := ⟨_, rfl⟩
   rw [← hu] at em ⊢
   simp only [At.enc, Po.enc, Fr.enc] at v1 v2 v3 om1 ⊢
   rcases hk with rfl | rfl
   all_goals
    simp [lf81, v1, Tnt_mu, Tnt_fns]
    rw [vc_regionW]
    refine ⟨[], ?_⟩
    simp at v3
    simp [om1, v2, v3, em, w1, w2, fillS, Tnt_mu, Tnt_fns]
    all_goals exact keepT rfl
  ·rw [if_neg e]
   have eb : ((s.2 : Int) != 0) = true := by simp; omega
   simp only [At.enc, Po.enc, Fr.enc, zAt, zPo, zF, List.map_nil] at v1 v2 om1 ⊢
   rcases hk with rfl | rfl
   all_goals
    simp [lf81, v1, Tnt_mu, Tnt_fns]
    rw [vc_regionW]
    refine ⟨[], ?_⟩
    simp [om1, v2, eb, e, fillS, zAt, zPo, zF, Tnt_mu, Tnt_fns]
    all_goals exact keepT rfl
 ·have hk2 : (decide (k = 1) || decide (k = 2)) = false := by simpa using hk
  rw [hk2]
  have hk3 : ¬ k = 1 := fun h => hk (.inl h)
  have hk4 : ¬ k = 2 := fun h => hk (.inr h)
  simp only [At.enc, Po.enc, Fr.enc, zAt, zPo, zF, List.map_nil] at v1 ⊢
  simp [lf81, v1, nk, hk3, hk4, zAt, zPo, zF, Tnt_mu, Tnt_fns]
def Trnt : Tab := (((Tab.none.with 20 (pureS (h1 okAt))).with 31 (pureS sQOf)).with 52 (pureS (gks scaleP))).with 32 (pureS (ki makeP))
theorem Trnt_ok : TabOk Tryz.prog base Trnt := Tab.with_ok (Tab.with_ok (Tab.with_ok (Tab.with_ok Tab.none_ok rvatom_ok) rofR_ok) rscale_ok) rmake_ok
theorem Trnt_mu (f : FuncId) (a : List AVal) (H : Heap) : Trnt.mu f a H = none := (rfl)
theorem Trnt_fns : Trnt.fn 20 = (pureS (h1 okAt)) ∧ Trnt.fn 31 = (pureS sQOf) ∧ Trnt.fn 52 = (pureS (gks scaleP)) ∧ Trnt.fn 32 = (pureS (ki makeP)) := ⟨rfl, rfl, rfl, rfl⟩
set_option maxHeartbeats 2000000 in
theorem rnot_ok : FnOk Tryz.prog base 82 (pureS (h1s notP)) := by
 refine pure_of_vc hmix Trnt_ok globNone low82 fun args z hs hf => ?_
 obtain ⟨⟨k, p, a, b⟩, wx, fx, rfl, rfl⟩ := h1s_some hs
 refine ⟨by simp [lf82], ?_⟩
 simp only at wx fx
 have v1 : h1 okAt [(At.mk k p a b).enc] = some (.bool (At.mk k p a b).ok) := h1_at wx
 have ek : ∀ n : Int, (k == n) = decide (k = n) := fun n => rfl
 have nk : ∀ n : Int, (k != n) = decide (k ≠ n) := fun n => by rw [bne, ek]; simp
 unfold notP notAt
 obtain ⟨o, ho⟩ : ∃ o, o = (At.mk k p a b).ok := ⟨_, rfl⟩
 rw [← ho] at v1 ⊢
 simp only
 cases o with
 | false =>
  simp only [At.enc, Po.enc, Fr.enc, zAt, zPo, zF, List.map_nil] at v1 ⊢
  simp [lf82, v1, zAt, zPo, zF, Trnt_mu, Trnt_fns]
 | true =>
 by_cases hk : k = 1 ∨ k = 2
 ·have hk2 : (decide (k = 1) || decide (k = 2)) = true := by simpa using hk
  rw [hk2]
  have om1 := ofR (n := -1) (d := 1) (by decide)
  have w1 : IntKind.i64.wrap 1 = 1 := rfl
  have w2 : IntKind.i64.wrap 2 = 2 := rfl
  rw [m1_eq] at om1
  have v2 : gks scaleP [p.enc, (ofQ (-1)).enc] = some (pairPo (scalePo p (ofQ (-1)))) := gks_at wx (wf_ofQ _) fx
  have ws := wf_scalePo p (ofQ (-1))
  have fs := few_scalePo (k := ofQ (-1)) fx
  have er := scalePo_err (p := p) (k := ofQ (-1))
  obtain ⟨s, hs'⟩ : ∃ s, s = scalePo p (ofQ (-1)) := ⟨_, rfl⟩
  rw [← hs'] at v2 ws fs er ⊢
  have v3 : ki makeP [.int .i64 (3 - k), s.1.enc] = some (tripAt (makeAt (3 - k) s.1)) := ki_at ws fs
  have hres : (if s.2 = 0 then ((makeAt (3 - k) s.1).1, decide ((makeAt (3 - k) s.1).2.2 = 0)) else (zAt, false)) = ((makeAt (3 - k) s.1).1, decide ((makeAt (3 - k) s.1).2.2 = 0)) := by
   by_cases e : s.2 = 0
   ·rw [if_pos e]
   ·rw [if_neg e, er e, make_zPo]; rfl
  simp only [Bool.and_self, if_true]
  rw [hres]
  obtain ⟨m, hm⟩ : ∃ m, m = makeAt (3 - k) s.1 := ⟨_, rfl⟩
  rw [← hm] at v3 ⊢
  obtain ⟨y, hy⟩ : ∃ y, y = ofQ (-1) := ⟨_, rfl⟩
  rw [← hy] at v2 om1
  unfold pairPo at v2
  unfold tripAt at v3
  simp only
  have em : ((m.2.2 : Int) == 0) = decide (m.2.2 = 0) := by rw [Bool.eq_iff_iff]; simp
  obtain ⟨u, hu⟩ : ∃ u, u = decide (m.2.2 = 0) := ⟨_, rfl⟩
  rw [← hu] at em ⊢
  simp only [At.enc, Po.enc, Fr.enc] at v1 v2 v3 om1 ⊢
  rcases hk with rfl | rfl
  all_goals
   simp [lf82, v1, Trnt_mu, Trnt_fns]
   rw [vc_regionW]
   refine ⟨[], ?_⟩
   simp at v3
   simp [om1, v2, v3, em, w1, w2, fillS, Trnt_mu, Trnt_fns]
   all_goals exact keepT rfl
 ·have hk2 : (decide (k = 1) || decide (k = 2)) = false := by simpa using hk
  rw [hk2]
  have hk3 : ¬ k = 1 := fun h => hk (.inl h)
  have hk4 : ¬ k = 2 := fun h => hk (.inr h)
  simp only [At.enc, Po.enc, Fr.enc, zAt, zPo, zF, List.map_nil] at v1 ⊢
  simp [lf82, v1, nk, hk3, hk4, zAt, zPo, zF, Trnt_mu, Trnt_fns]
def holdsAt (lk : Int → Fr) (x : At) : Bool × Nat :=
 if isSum x.k && x.ok then (decide ((valuePo lk x.p).2 = 0) && soF x.k (signF (valuePo lk x.p).1), (valuePo lk x.p).2) else (false, 1)
def holdsPr (r : Bool × Nat) : PVal := .tup [.bool r.1, .int .i64 r.2]
def sHolds (L : Lk) : List PVal → Option PVal
 | [a, c] => match decAt a with | some x => if x.p.few = true then (match L c x.p with | some lk => some (holdsPr (holdsAt lk x)) | none => none) else none | none => none
 | _ => none
theorem sHolds_at {L : Lk} {x : At} {c : PVal} {lk : Int → Fr} (wx : x.p.wf) (fx : x.p.few = true) (hl : L c x.p = some lk) : sHolds L [x.enc, c] = some (holdsPr (holdsAt lk x)) := by simp only [sHolds, decAt_enc wx, fx, if_true, hl]
def Thd (L : Lk) : Tab := ((((Tab.none.with 92 (pureS sSum)).with 55 (pureS (h1 okAt))).with 108 (pureS (sValue L))).with 56 (pureS (f1 signP))).with 109 (pureS sSo)
theorem Thd_mu (L : Lk) (f : FuncId) (a : List AVal) (H : Heap) : (Thd L).mu f a H = none := (rfl)
theorem Thd_fns (L : Lk) : (Thd L).fn 92 = (pureS sSum) ∧ (Thd L).fn 55 = (pureS (h1 okAt)) ∧ (Thd L).fn 108 = (pureS (sValue L)) ∧ (Thd L).fn 56 = (pureS (f1 signP)) ∧ (Thd L).fn 109 = (pureS sSo) := ⟨rfl, rfl, rfl, rfl, rfl⟩
theorem aholds_ok {L : Lk} (hv : FnOk Tryz.prog base 108 (pureS (sValue L))) : FnOk Tryz.prog base 66 (pureS (sHolds L)) := by
 refine pure_of_vc (T := Thd L) hmix (Tab.with_ok (Tab.with_ok (Tab.with_ok (Tab.with_ok (Tab.with_ok Tab.none_ok asum_ok) avalid_ok) hv) qsign_ok) aso_ok) globNone low66 fun args z hs hf => ?_
 unfold sHolds at hs
 split at hs
 case h_2 => cases hs
 rename_i a c
 split at hs
 case h_2 => cases hs
 rename_i x hx
 obtain ⟨rfl, wx⟩ := decAt_some hx
 split at hs
 case isFalse => cases hs
 rename_i fx
 split at hs
 case h_2 => cases hs
 rename_i lk hl
 cases hs
 refine ⟨by simp [lf66], ?_⟩
 have v1 := sSum_at x.k
 have v2 : h1 okAt [x.enc] = some (.bool x.ok) := h1_at wx
 have v3 := sValue_at wx fx hl
 have wv := wf_valuePo (lk := lk) wx
 unfold holdsPr holdsAt
 obtain ⟨v, hv'⟩ : ∃ v, v = valuePo lk x.p := ⟨_, rfl⟩
 rw [← hv'] at v3 wv ⊢
 have v4 : f1 signP [v.1.enc] = some (.int .i64 (signF v.1)) := f1_at wv
 have v5 := sSo_at x.k (signF v.1)
 have em : ((v.2 : Int) == 0) = decide (v.2 = 0) := by rw [Bool.eq_iff_iff]; simp
 obtain ⟨b1, hb1⟩ : ∃ b, b = isSum x.k := ⟨_, rfl⟩
 obtain ⟨b2, hb2⟩ : ∃ b, b = x.ok := ⟨_, rfl⟩
 obtain ⟨b3, hb3⟩ : ∃ b, b = decide (v.2 = 0) := ⟨_, rfl⟩
 obtain ⟨b4, hb4⟩ : ∃ b, b = soF x.k (signF v.1) := ⟨_, rfl⟩
 rw [← hb1] at v1 ⊢
 rw [← hb2] at v2 ⊢
 rw [← hb4] at v5
 unfold pairF at v3
 simp only [At.enc, Po.enc, Fr.enc] at v1 v2 v3 v4 v5 ⊢
 cases b1
 ·simp [lf66, v1, Thd_mu, Thd_fns]
 ·cases b2
  ·simp [lf66, v1, v2, Thd_mu, Thd_fns]
  ·simp only [Bool.and_self, if_true]
   rw [← hb3, ← hb4]
   rw [← hb3] at em
   cases b3 <;> simp [lf66, v1, v2, v3, v4, v5, em, Thd_mu, Thd_fns]
def Trhd : Tab := ((Tab.none.with 20 (pureS (h1 okAt))).with 64 (pureS sRVal)).with 65 (pureS sSays)
theorem Trhd_ok : TabOk Tryz.prog base Trhd := Tab.with_ok (Tab.with_ok (Tab.with_ok Tab.none_ok rvatom_ok) rvalue_ok) rsays_ok
theorem Trhd_mu (f : FuncId) (a : List AVal) (H : Heap) : Trhd.mu f a H = none := (rfl)
theorem Trhd_fns : Trhd.fn 20 = (pureS (h1 okAt)) ∧ Trhd.fn 64 = (pureS sRVal) ∧ Trhd.fn 65 = (pureS sSays) := ⟨rfl, rfl, rfl⟩
def sRHolds : List PVal → Option PVal
 | [a, .lst vs] => match decAt a, decBs vs with | some x, some l => if x.p.few = true then some (holdsPr (holdsAt (lookB l) x)) else none | _, _ => none
 | _ => none
theorem sRHolds_at {x : At} {l : List Bd} (wx : x.p.wf) (fx : x.p.few = true) (wl : wfB l) : sRHolds [x.enc, .lst (l.map Bd.enc)] = some (holdsPr (holdsAt (lookB l) x)) := by simp only [sRHolds, decAt_enc wx, decBs_enc wl, fx, if_true]
theorem rholds_ok : FnOk Tryz.prog base 21 (pureS sRHolds) := by
 refine pure_of_vc hmix Trhd_ok globNone low21 fun args z hs hf => ?_
 unfold sRHolds at hs
 split at hs
 case h_2 => cases hs
 rename_i a vs
 split at hs
 case h_2 => cases hs
 rename_i x l hx hl
 obtain ⟨rfl, wx⟩ := decAt_some hx
 obtain ⟨rfl, wl⟩ := decBs_some hl
 split at hs
 case isFalse => cases hs
 rename_i fx
 cases hs
 refine ⟨by simp [lf21], ?_⟩
 have v2 : h1 okAt [x.enc] = some (.bool x.ok) := h1_at wx
 have v3 := sRVal_at wx fx wl
 have wv := wf_valuePo (lk := lookB l) wx
 have hk : x.ok = true → decide (3 < x.k) = !isSum x.k := sum_ok
 unfold holdsPr holdsAt
 obtain ⟨v, hv'⟩ : ∃ v, v = valuePo (lookB l) x.p := ⟨_, rfl⟩
 rw [← hv'] at v3 wv ⊢
 have v5 : sSays [.int .i64 x.k, v.1.enc] = some (.bool (soF x.k (signF v.1))) := sSays_at wv
 obtain ⟨b1, hb1⟩ : ∃ b, b = isSum x.k := ⟨_, rfl⟩
 obtain ⟨b2, hb2⟩ : ∃ b, b = x.ok := ⟨_, rfl⟩
 obtain ⟨b4, hb4⟩ : ∃ b, b = soF x.k (signF v.1) := ⟨_, rfl⟩
 rw [← hb1] at hk ⊢
 rw [← hb2] at v2 hk ⊢
 rw [← hb4] at v5
 unfold pairF at v3
 simp only [At.enc, Po.enc, Fr.enc] at v2 v3 v5 ⊢
 cases b2
 ·cases b1 <;> simp [lf21, v2, Trhd_mu, Trhd_fns]
 ·have hk' := hk rfl
  cases b1
  ·simp only [Bool.not_false] at hk'
   simp [lf21, v2, hk', Trhd_mu, Trhd_fns]
  ·simp only [Bool.not_true, Bool.and_self, if_true] at hk' ⊢
   rw [← hb4]
   by_cases e : v.2 = 0
   ·rw [e] at v3 ⊢
    simp [lf21, v2, v3, v5, hk', Trhd_mu, Trhd_fns]
   ·have eb : ((v.2 : Int) != 0) = true := by simp; omega
    simp [lf21, v2, v3, v5, hk', e, eb, Trhd_mu, Trhd_fns]
end Go.Proofs.YtcfklmjgofknjaaGreat
