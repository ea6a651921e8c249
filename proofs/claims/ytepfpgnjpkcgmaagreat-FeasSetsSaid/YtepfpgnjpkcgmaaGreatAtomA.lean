/-
  Atoms as pure values; atom's small functions. No conditions beyond the lemmas' own hypotheses.
-/
import Derived.Test.YtepfpgnjpkcgmaaGreatLinD
import Derived.Test.YtepfpgnjpkcgmaaGreatLinE
import Derived.Test.YtepfpgnjpkcgmaaGreatAtomL
set_option linter.unusedSimpArgs false
set_option linter.unnecessarySimpa false
set_option linter.unusedVariables false
set_option linter.constructorNameAsVariable false

/-
 Atoms as pure values: what is one, the same, whether it is so; atom's small functions.
-/
namespace Go.Proofs.YtepfpgnjpkcgmaaGreat
open Go Go.Abs Go.Limbs
variable {base : Prot}
set_option maxRecDepth 20000
attribute [local irreducible] vc
attribute [local simp] pureS touchV freezeL fuel shiftV u64 au
structure At where
 k : Int
 p : Po
 a : Int
 b : Int
def At.enc (x : At) : PVal := .agg [.int .i64 x.k, .lst (x.p.ps.map Pa.enc), .bool x.p.c.s, .lst (x.p.c.n.map u64), .lst (x.p.c.d.map u64), .int .i64 x.a, .int .i64 x.b]
def decAt : PVal → Option At
 | .agg [.int .i64 k, .lst vs, .bool s, .lst xs, .lst ys, .int .i64 a, .int .i64 b] => match decPs vs, decU xs, decU ys with | some ps, some l, some m => some ⟨k, ⟨ps, ⟨s, l, m⟩⟩, a, b⟩ | _, _, _ => none
 | _ => none
theorem decAt_enc {x : At} (h : x.p.wf) : decAt x.enc = some x := by simp only [decAt, At.enc, decPs_enc h.1, decU_map h.2.1, decU_map h.2.2]
theorem decAt_some {v : PVal} {x : At} (h : decAt v = some x) : v = x.enc ∧ x.p.wf := by
 unfold decAt at h
 split at h
 ·rename_i k vs s xs ys a b
  split at h
  ·rename_i ps l m hp hl hm
   cases h
   obtain ⟨rfl, wp⟩ := decPs_some hp
   obtain ⟨rfl, wl⟩ := decU_some hl
   obtain ⟨rfl, wm⟩ := decU_some hm
   exact ⟨rfl, wp, wl, wm⟩
  ·cases h
 ·cases h
def h1 (g : At → PVal) : List PVal → Option PVal
 | [a] => match decAt a with | some x => some (g x) | none => none
 | _ => none
def h2 (g : At → At → PVal) : List PVal → Option PVal
 | [a, b] => match decAt a, decAt b with | some x, some y => some (g x y) | _, _ => none
 | _ => none
theorem h1_at {g : At → PVal} {x : At} (h : x.p.wf) : h1 g [x.enc] = some (g x) := by simp only [h1, decAt_enc h]
theorem h1_some {g : At → PVal} {args : List PVal} {z : PVal} (h : h1 g args = some z) : ∃ x : At, x.p.wf ∧ args = [x.enc] ∧ z = g x := by
 unfold h1 at h
 split at h
 ·split at h
  ·rename_i x hx
   obtain ⟨rfl, w⟩ := decAt_some hx
   cases h
   exact ⟨x, w, rfl, rfl⟩
  ·cases h
 ·cases h
def isSum (k : Int) : Bool := decide (k = 1) || (decide (k = 2) || decide (k = 3))
def unitF (c : Fr) (minus : Bool) : Bool := decide (c = ofQ 1) || (minus && decide (c = ofQ (-1)))
def headU (k : Int) : List Pa → Bool
 | [] => true
 | x :: _ => unitF x.c (decide (k ≠ 3))
def At.ok (x : At) : Bool :=
 if isSum x.k = true then decide (x.a = 0) && (decide (x.b = 0) && (x.p.ok && headU x.k x.p.ps))
 else if x.k = 5 then decide (0 ≤ x.a) && (decide (x.a < x.b) && decide (x.p = zPo))
 else if x.k = 6 then decide (0 ≤ x.a) && (decide (x.b = 0) && decide (x.p = zPo))
 else false
def okAt (x : At) : PVal := .bool x.ok
def soF (k : Int) (s : Int) : Bool := if k = 1 then decide (s ≤ 0) else if k = 2 then decide (s < 0) else decide (s = 0)
def sSum : List PVal → Option PVal
 | [.int .i64 k] => some (.bool (isSum k))
 | _ => none
theorem asum_ok : FnOk Tryz.prog base 109 (pureS sSum) := by
 refine pure_of_vc hmix Tab.none_ok globNone low109 fun args z hs hf => ?_
 unfold sSum at hs
 split at hs
 case h_2 => cases hs
 rename_i k
 cases hs
 refine ⟨by simp [lf109], ?_⟩
 unfold isSum
 have e : ∀ n : Int, (k == n) = decide (k = n) := fun n => rfl
 by_cases h1 : k = 1
 ·subst h1; simp [lf109]
 ·by_cases h2 : k = 2
  ·subst h2; simp [lf109]
  ·simp [lf109, e, h1, h2]
def Tat1 : Tab := Tab.none.with 34 (pureS (g2 samePo))
theorem Tat1_ok : TabOk Tryz.prog base Tat1 := Tab.with_ok Tab.none_ok lsamep_ok
theorem Tat1_mu (f : FuncId) (a : List AVal) (H : Heap) : Tat1.mu f a H = none := (rfl)
theorem Tat1_fns : Tat1.fn 34 = (pureS (g2 samePo)) := (rfl)
def bareP (p : Po) : PVal := .bool (decide (p = zPo))
theorem abare_ok : FnOk Tryz.prog base 113 (pureS (g1 bareP)) := by
 refine pure_of_vc hmix Tat1_ok globNone low113 fun args z hs hf => ?_
 obtain ⟨p, wp, rfl, rfl⟩ := g1_some hs
 refine ⟨by simp [lf113], ?_⟩
 have v1 : g2 samePo [p.enc, zPo.enc] = some (.bool (decide (p = zPo))) := g2_at wp wf_zPo
 unfold bareP
 obtain ⟨q, hq⟩ : ∃ q, q = decide (p = zPo) := ⟨_, rfl⟩
 rw [← hq] at v1 ⊢
 simp only [Po.enc, Fr.enc, zPo, zF, List.map_nil] at v1 ⊢
 simp [lf113, v1, Tat1_mu, Tat1_fns]
def sUnit : List PVal → Option PVal
 | [a, .bool m] => match decF a with | some c => if c.ok = true then some (.bool (unitF c m)) else none | none => none
 | _ => none
theorem sUnit_at {c : Fr} {m : Bool} (h : c.wf) (o : c.ok = true) : sUnit [c.enc, .bool m] = some (.bool (unitF c m)) := by simp only [sUnit, decF_enc h, o, if_true]
def Tun : Tab := (Tab.none.with 95 (pureS sQOf)).with 166 (pureS (f2 cmpP))
theorem Tun_ok : TabOk Tryz.prog base Tun := Tab.with_ok (Tab.with_ok Tab.none_ok qof_ok) qcmp_ok
theorem Tun_mu (f : FuncId) (a : List AVal) (H : Heap) : Tun.mu f a H = none := (rfl)
theorem Tun_fns : Tun.fn 95 = (pureS sQOf) ∧ Tun.fn 166 = (pureS (f2 cmpP)) := ⟨rfl, rfl⟩
theorem cmpF_eq {x y : Fr} (hx : x.ok = true) (hy : y.ok = true) : (cmpF x y == 0) = decide (x = y) := by
 obtain ⟨p, hp, rfl⟩ := Fr.ok_of hx
 obtain ⟨q, hq, rfl⟩ := Fr.ok_of hy
 rw [cmpF_num hp hq, Bool.eq_iff_iff, beq_iff_eq, decide_eq_true_eq, cmpQ_zero_iff]
 exact ⟨fun h => by rw [h], ofQ_inj⟩
theorem aunit_ok : FnOk Tryz.prog base 112 (pureS sUnit) := by
 refine pure_of_vc hmix Tun_ok globNone low112 fun args z hs hf => ?_
 unfold sUnit at hs
 split at hs
 case h_2 => cases hs
 rename_i m
 split at hs
 case h_2 => cases hs
 rename_i c hc
 obtain ⟨rfl, wc⟩ := decF_some hc
 split at hs
 case isFalse => cases hs
 rename_i hok
 cases hs
 refine ⟨by simp [lf112], ?_⟩
 have o1 := ofR (n := 1) (d := 1) (by decide)
 have om1 := ofR (n := -1) (d := 1) (by decide)
 rw [p1_eq] at o1
 rw [m1_eq] at om1
 have c1 : f2 cmpP [c.enc, (ofQ 1).enc] = some (.int .i64 (cmpF c (ofQ 1))) := f2_at wc (wf_ofQ _)
 have c2 : f2 cmpP [c.enc, (ofQ (-1)).enc] = some (.int .i64 (cmpF c (ofQ (-1)))) := f2_at wc (wf_ofQ _)
 have e1 := cmpF_eq hok (ok_ofQ Sm_p1)
 have e2 := cmpF_eq hok (ok_ofQ Sm_m1)
 unfold unitF
 obtain ⟨x1, h1⟩ : ∃ x, x = ofQ 1 := ⟨_, rfl⟩
 obtain ⟨x2, h2⟩ : ∃ x, x = ofQ (-1) := ⟨_, rfl⟩
 rw [← h1] at o1 c1 e1 ⊢
 rw [← h2] at om1 c2 e2 ⊢
 obtain ⟨q1, hq1⟩ : ∃ q, q = decide (c = x1) := ⟨_, rfl⟩
 obtain ⟨q2, hq2⟩ : ∃ q, q = decide (c = x2) := ⟨_, rfl⟩
 rw [← hq1] at e1 ⊢
 rw [← hq2] at e2 ⊢
 simp only [Fr.enc] at o1 om1 c1 c2 ⊢
 cases q1 <;> cases q2 <;> cases m <;> simp [lf112, o1, om1, c1, c2, e1, e2, Tun_mu, Tun_fns]
def Tava : Tab := (((Tab.none.with 109 (pureS sSum)).with 113 (pureS (g1 bareP))).with 112 (pureS sUnit)).with 30 (pureS (g1 okPo))
theorem Tava_ok : TabOk Tryz.prog base Tava := Tab.with_ok (Tab.with_ok (Tab.with_ok (Tab.with_ok Tab.none_ok asum_ok) abare_ok) aunit_ok) lvalid_ok
theorem Tava_mu (f : FuncId) (a : List AVal) (H : Heap) : Tava.mu f a H = none := (rfl)
theorem Tava_fns : Tava.fn 109 = (pureS sSum) ∧ Tava.fn 113 = (pureS (g1 bareP)) ∧ Tava.fn 112 = (pureS sUnit) ∧ Tava.fn 30 = (pureS (g1 okPo)) := ⟨rfl, rfl, rfl, rfl⟩
theorem sSum_at (k : Int) : sSum [.int .i64 k] = some (.bool (isSum k)) := rfl
theorem avalid_ok : FnOk Tryz.prog base 46 (pureS (h1 okAt)) := by
 refine pure_of_vc hmix Tava_ok globNone low46 fun args z hs hf => ?_
 obtain ⟨⟨k, p, a, b⟩, wp, rfl, rfl⟩ := h1_some hs
 refine ⟨by simp [lf46], ?_⟩
 simp only at wp
 have v1 := sSum_at k
 have v2 : g1 okPo [p.enc] = some (.bool p.ok) := g1_at wp
 have v3 : g1 bareP [p.enc] = some (.bool (decide (p = zPo))) := g1_at wp
 have ek : ∀ n : Int, (k == n) = decide (k = n) := fun n => rfl
 have ea : (a == 0) = decide (a = 0) := rfl
 have eb : (b == 0) = decide (b = 0) := rfl
 have nk : (k != 3) = decide (k ≠ 3) := by rw [bne, ek]; simp
 unfold okAt At.ok
 simp only
 cases hsum : isSum k with
 | true =>
  rw [hsum] at v1
  by_cases ha : a = 0
  ·by_cases hb : b = 0
   ·cases hok : p.ok with
    | false =>
     rw [hok] at v2
     simp only [At.enc, Po.enc, Fr.enc] at v1 v2 ⊢
     simp [lf46, v1, v2, ha, hb, Tava_mu, Tava_fns]
    | true =>
     rw [hok] at v2
     obtain ⟨ps, pc⟩ := p
     cases ps with
     | nil =>
      simp only [At.enc, Po.enc, Fr.enc, List.map_nil] at v1 v2 ⊢
      simp [lf46, v1, v2, ha, hb, headU, Tava_mu, Tava_fns]
     | cons x ps =>
      have v4 := sUnit_at (m := decide (k ≠ 3)) (wp.1 x (by simp)) (ok_part hok (by simp : x ∈ x :: ps))
      have hl0 : ((ps.length : Int) + 1 == 0) = false := by simp; omega
      have hp1 : (0 : Int) < (ps.length : Int) + 1 := by omega
      simp only [headU]
      obtain ⟨u, hu⟩ : ∃ u, u = unitF x.c (decide (k ≠ 3)) := ⟨_, rfl⟩
      rw [← hu] at v4 ⊢
      obtain ⟨nk3, hnk⟩ : ∃ u, u = decide (k ≠ 3) := ⟨_, rfl⟩
      rw [← hnk] at v4 nk
      simp only [At.enc, Po.enc, Fr.enc, Pa.enc, List.map_cons] at v1 v2 v4 ⊢
      simp [lf46, v1, v2, v4, nk, ha, hb, hl0, hp1, Tava_mu, Tava_fns]
   ·simp only [At.enc, Po.enc, Fr.enc] at v1 ⊢
    simp [lf46, v1, ha, eb, hb, Tava_mu, Tava_fns]
  ·simp only [At.enc, Po.enc, Fr.enc] at v1 ⊢
   simp [lf46, v1, ea, ha, Tava_mu, Tava_fns]
 | false =>
  rw [hsum] at v1
  obtain ⟨q, hq⟩ : ∃ q, q = decide (p = zPo) := ⟨_, rfl⟩
  rw [← hq] at v3 ⊢
  simp only [At.enc, Po.enc, Fr.enc] at v1 v3 ⊢
  by_cases h5 : k = 5
  ·subst h5
   by_cases ha : 0 ≤ a
   ·by_cases hab : a < b
    ·simp [lf46, v1, v3, ha, hab, Tava_mu, Tava_fns]
    ·simp [lf46, v1, v3, ha, hab, Tava_mu, Tava_fns]
   ·simp [lf46, v1, v3, ha, Tava_mu, Tava_fns]
  ·by_cases h6 : k = 6
   ·subst h6
    by_cases ha : 0 ≤ a
    ·by_cases hb : b = 0
     ·simp [lf46, v1, v3, ha, hb, Tava_mu, Tava_fns]
     ·simp [lf46, v1, v3, ha, eb, hb, Tava_mu, Tava_fns]
    ·simp [lf46, v1, v3, ha, Tava_mu, Tava_fns]
   ·simp [lf46, v1, ek, h5, h6, Tava_mu, Tava_fns]
instance : DecidableEq At := fun x y => if h : x.k = y.k ∧ x.p = y.p ∧ x.a = y.a ∧ x.b = y.b then .isTrue (by cases x; cases y; obtain ⟨a, b, c, d⟩ := h; simp_all) else .isFalse (fun e => h (by rw [e]; exact ⟨rfl, rfl, rfl, rfl⟩))
end Go.Proofs.YtepfpgnjpkcgmaaGreat

/-
 atom: copies of sums, atoms of sums, opposites, what says nothing, what holds.
-/
namespace Go.Proofs.YtepfpgnjpkcgmaaGreat
open Go Go.Abs Go.Limbs
variable {base : Prot}
set_option maxRecDepth 20000
attribute [local irreducible] vc
attribute [local simp] pureS touchV freezeL fuel shiftV u64 au
end Go.Proofs.YtepfpgnjpkcgmaaGreat
