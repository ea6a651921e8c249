/-
  Atoms as pure values; atom's small functions. No conditions beyond the lemmas' own hypotheses.
-/
import Derived.Test.YtcfklmjgofknjaaGreatLinD
import Derived.Test.YtcfklmjgofknjaaGreatLinE
import Derived.Test.YtcfklmjgofknjaaGreatAtomL
set_option linter.unusedSimpArgs false
set_option linter.unnecessarySimpa false
set_option linter.unusedVariables false
set_option linter.constructorNameAsVariable false

/-
 Atoms as pure values: what is one, the same, whether it is so; atom's small functions.
-/
namespace Go.Proofs.YtcfklmjgofknjaaGreat
open Go Go.Abs Go.Limbs
variable {base : Prot}
set_option maxRecDepth 20000
attribute [local irreducible] vc
attribute [local simp] pureS touchV freezeL fuel shiftV u64 au
structure At where
 k : Int
 p : Po
 a : Int
 b : Int
def At.enc (x : At) : PVal := .agg [.int .i64 x.k, .lst (x.p.ps.map Pa.enc), .bool x.p.c.s, .lst (x.p.c.n.map u64), .lst (x.p.c.d.map u64), .int .i64 x.a, .int .i64 x.b]
def decAt : PVal → Option At
 | .agg [.int .i64 k, .lst vs, .bool s, .lst xs, .lst ys, .int .i64 a, .int .i64 b] => match decPs vs, decU xs, decU ys with | some ps, some l, some m => some ⟨k, ⟨ps, ⟨s, l, m⟩⟩, a, b⟩ | _, _, _ => none
 | _ => none
theorem decAt_enc {x : At} (h : x.p.wf) : decAt x.enc = some x := by simp only [decAt, At.enc, decPs_enc h.1, decU_map h.2.1, decU_map h.2.2]
theorem decAt_some {v : PVal} {x : At} (h : decAt v = some x) : v = x.enc ∧ x.p.wf := by
 unfold decAt at h
 split at h
 ·rename_i k vs s xs ys a b
  split at h
  ·rename_i ps l m hp hl hm
   cases h
   obtain ⟨rfl, wp⟩ := decPs_some hp
   obtain ⟨rfl, wl⟩ := decU_some hl
   obtain ⟨rfl, wm⟩ := decU_some hm
   exact ⟨rfl, wp, wl, wm⟩
  ·cases h
 ·cases h
def h1 (g : At → PVal) : List PVal → Option PVal
 | [a] => match decAt a with | some x => some (g x) | none => none
 | _ => none
def h1s (g : At → PVal) : List PVal → Option PVal
 | [a] => match decAt a with | some x => if x.p.few = true then some (g x) else none | none => none
 | _ => none
def h2 (g : At → At → PVal) : List PVal → Option PVal
 | [a, b] => match decAt a, decAt b with | some x, some y => some (g x y) | _, _ => none
 | _ => none
theorem h1_at {g : At → PVal} {x : At} (h : x.p.wf) : h1 g [x.enc] = some (g x) := by simp only [h1, decAt_enc h]
theorem h1s_at {g : At → PVal} {x : At} (h : x.p.wf) (f : x.p.few = true) : h1s g [x.enc] = some (g x) := by simp only [h1s, decAt_enc h, f, if_true]
theorem h2_at {g : At → At → PVal} {x y : At} (h : x.p.wf) (h' : y.p.wf) : h2 g [x.enc, y.enc] = some (g x y) := by simp only [h2, decAt_enc h, decAt_enc h']
theorem h1_some {g : At → PVal} {args : List PVal} {z : PVal} (h : h1 g args = some z) : ∃ x : At, x.p.wf ∧ args = [x.enc] ∧ z = g x := by
 unfold h1 at h
 split at h
 ·split at h
  ·rename_i x hx
   obtain ⟨rfl, w⟩ := decAt_some hx
   cases h
   exact ⟨x, w, rfl, rfl⟩
  ·cases h
 ·cases h
theorem h1s_some {g : At → PVal} {args : List PVal} {z : PVal} (h : h1s g args = some z) : ∃ x : At, x.p.wf ∧ x.p.few = true ∧ args = [x.enc] ∧ z = g x := by
 unfold h1s at h
 split at h
 ·split at h
  ·rename_i x hx
   obtain ⟨rfl, w⟩ := decAt_some hx
   split at h
   ·cases h; exact ⟨x, w, by assumption, rfl, rfl⟩
   ·cases h
  ·cases h
 ·cases h
theorem h2_some {g : At → At → PVal} {args : List PVal} {z : PVal} (h : h2 g args = some z) : ∃ x y : At, x.p.wf ∧ y.p.wf ∧ args = [x.enc, y.enc] ∧ z = g x y := by
 unfold h2 at h
 split at h
 ·split at h
  ·rename_i x y hx hy
   obtain ⟨rfl, w⟩ := decAt_some hx
   obtain ⟨rfl, w2⟩ := decAt_some hy
   cases h
   exact ⟨x, y, w, w2, rfl, rfl⟩
  ·cases h
 ·cases h
def isSum (k : Int) : Bool := decide (k = 1) || (decide (k = 2) || decide (k = 3))
def unitF (c : Fr) (minus : Bool) : Bool := decide (c = ofQ 1) || (minus && decide (c = ofQ (-1)))
def headU (k : Int) : List Pa → Bool
 | [] => true
 | x :: _ => unitF x.c (decide (k ≠ 3))
def At.ok (x : At) : Bool :=
 if isSum x.k = true then decide (x.a = 0) && (decide (x.b = 0) && (x.p.ok && headU x.k x.p.ps))
 else if x.k = 5 then decide (0 ≤ x.a) && (decide (x.a < x.b) && decide (x.p = zPo))
 else if x.k = 6 then decide (0 ≤ x.a) && (decide (x.b = 0) && decide (x.p = zPo))
 else false
def okAt (x : At) : PVal := .bool x.ok
def zAt : At := ⟨0, zPo, 0, 0⟩
def soF (k : Int) (s : Int) : Bool := if k = 1 then decide (s ≤ 0) else if k = 2 then decide (s < 0) else decide (s = 0)
def sSum : List PVal → Option PVal
 | [.int .i64 k] => some (.bool (isSum k))
 | _ => none
theorem asum_ok : FnOk Tryz.prog base 92 (pureS sSum) := by
 refine pure_of_vc hmix Tab.none_ok globNone low92 fun args z hs hf => ?_
 unfold sSum at hs
 split at hs
 case h_2 => cases hs
 rename_i k
 cases hs
 refine ⟨by simp [lf92], ?_⟩
 unfold isSum
 have e : ∀ n : Int, (k == n) = decide (k = n) := fun n => rfl
 by_cases h1 : k = 1
 ·subst h1; simp [lf92]
 ·by_cases h2 : k = 2
  ·subst h2; simp [lf92]
  ·simp [lf92, e, h1, h2]
def sSo : List PVal → Option PVal
 | [.int .i64 k, .int .i64 s] => some (.bool (soF k s))
 | _ => none
theorem aso_ok : FnOk Tryz.prog base 109 (pureS sSo) := by
 refine pure_of_vc hmix Tab.none_ok globNone low109 fun args z hs hf => ?_
 unfold sSo at hs
 split at hs
 case h_2 => cases hs
 rename_i k s
 cases hs
 refine ⟨by simp [lf109], ?_⟩
 unfold soF
 have e : ∀ n : Int, (k == n) = decide (k = n) := fun n => rfl
 have e2 : ∀ n : Int, (s == n) = decide (s = n) := fun n => rfl
 by_cases h1 : k = 1
 ·subst h1; simp [lf109]
 ·by_cases h2 : k = 2
  ·subst h2; simp [lf109]
  ·simp [lf109, e, e2, h1, h2]
def Tat1 : Tab := Tab.none.with 132 (pureS (g2 samePo))
theorem Tat1_ok : TabOk Tryz.prog base Tat1 := Tab.with_ok Tab.none_ok lsamep_ok
theorem Tat1_mu (f : FuncId) (a : List AVal) (H : Heap) : Tat1.mu f a H = none := (rfl)
theorem Tat1_fns : Tat1.fn 132 = (pureS (g2 samePo)) := (rfl)
def bareP (p : Po) : PVal := .bool (decide (p = zPo))
theorem abare_ok : FnOk Tryz.prog base 101 (pureS (g1 bareP)) := by
 refine pure_of_vc hmix Tat1_ok globNone low101 fun args z hs hf => ?_
 obtain ⟨p, wp, rfl, rfl⟩ := g1_some hs
 refine ⟨by simp [lf101], ?_⟩
 have v1 : g2 samePo [p.enc, zPo.enc] = some (.bool (decide (p = zPo))) := g2_at wp wf_zPo
 unfold bareP
 obtain ⟨q, hq⟩ : ∃ q, q = decide (p = zPo) := ⟨_, rfl⟩
 rw [← hq] at v1 ⊢
 simp only [Po.enc, Fr.enc, zPo, zF, List.map_nil] at v1 ⊢
 simp [lf101, v1, Tat1_mu, Tat1_fns]
def sUnit : List PVal → Option PVal
 | [a, .bool m] => match decF a with | some c => if c.ok = true then some (.bool (unitF c m)) else none | none => none
 | _ => none
theorem sUnit_at {c : Fr} {m : Bool} (h : c.wf) (o : c.ok = true) : sUnit [c.enc, .bool m] = some (.bool (unitF c m)) := by simp only [sUnit, decF_enc h, o, if_true]
def Tun : Tab := (Tab.none.with 95 (pureS sQOf)).with 131 (pureS (f2 cmpP))
theorem Tun_ok : TabOk Tryz.prog base Tun := Tab.with_ok (Tab.with_ok Tab.none_ok qof_ok) qcmp_ok
theorem Tun_mu (f : FuncId) (a : List AVal) (H : Heap) : Tun.mu f a H = none := (rfl)
theorem Tun_fns : Tun.fn 95 = (pureS sQOf) ∧ Tun.fn 131 = (pureS (f2 cmpP)) := ⟨rfl, rfl⟩
theorem cmpF_eq {x y : Fr} (hx : x.ok = true) (hy : y.ok = true) : (cmpF x y == 0) = decide (x = y) := by
 obtain ⟨p, hp, rfl⟩ := Fr.ok_of hx
 obtain ⟨q, hq, rfl⟩ := Fr.ok_of hy
 rw [cmpF_num hp hq, Bool.eq_iff_iff, beq_iff_eq, decide_eq_true_eq, cmpQ_zero_iff]
 exact ⟨fun h => by rw [h], ofQ_inj⟩
theorem aunit_ok : FnOk Tryz.prog base 100 (pureS sUnit) := by
 refine pure_of_vc hmix Tun_ok globNone low100 fun args z hs hf => ?_
 unfold sUnit at hs
 split at hs
 case h_2 => cases hs
 rename_i m
 split at hs
 case h_2 => cases hs
 rename_i c hc
 obtain ⟨rfl, wc⟩ := decF_some hc
 split at hs
 case isFalse => cases hs
 rename_i hok
 cases hs
 refine ⟨by simp [lf100], ?_⟩
 have o1 := ofR (n := 1) (d := 1) (by decide)
 have om1 := ofR (n := -1) (d := 1) (by decide)
 rw [p1_eq] at o1
 rw [m1_eq] at om1
 have c1 : f2 cmpP [c.enc, (ofQ 1).enc] = some (.int .i64 (cmpF c (ofQ 1))) := f2_at wc (wf_ofQ _)
 have c2 : f2 cmpP [c.enc, (ofQ (-1)).enc] = some (.int .i64 (cmpF c (ofQ (-1)))) := f2_at wc (wf_ofQ _)
 have e1 := cmpF_eq hok (ok_ofQ Sm_p1)
 have e2 := cmpF_eq hok (ok_ofQ Sm_m1)
 unfold unitF
 obtain ⟨x1, h1⟩ : ∃ x, x = ofQ 1 := ⟨_, rfl⟩
 obtain ⟨x2, h2⟩ : ∃ x, x = ofQ (-1) := ⟨_, rfl⟩
 rw [← h1] at o1 c1 e1 ⊢
 rw [← h2] at om1 c2 e2 ⊢
 obtain ⟨q1, hq1⟩ : ∃ q, q = decide (c = x1) := ⟨_, rfl⟩
 obtain ⟨q2, hq2⟩ : ∃ q, q = decide (c = x2) := ⟨_, rfl⟩
 rw [← hq1] at e1 ⊢
 rw [← hq2] at e2 ⊢
 simp only [Fr.enc] at o1 om1 c1 c2 ⊢
 cases q1 <;> cases q2 <;> cases m <;> simp [lf100, o1, om1, c1, c2, e1, e2, Tun_mu, Tun_fns]
def Tava : Tab := (((Tab.none.with 92 (pureS sSum)).with 101 (pureS (g1 bareP))).with 100 (pureS sUnit)).with 84 (pureS (g1 okPo))
theorem Tava_ok : TabOk Tryz.prog base Tava := Tab.with_ok (Tab.with_ok (Tab.with_ok (Tab.with_ok Tab.none_ok asum_ok) abare_ok) aunit_ok) lvalid_ok
theorem Tava_mu (f : FuncId) (a : List AVal) (H : Heap) : Tava.mu f a H = none := (rfl)
theorem Tava_fns : Tava.fn 92 = (pureS sSum) ∧ Tava.fn 101 = (pureS (g1 bareP)) ∧ Tava.fn 100 = (pureS sUnit) ∧ Tava.fn 84 = (pureS (g1 okPo)) := ⟨rfl, rfl, rfl, rfl⟩
theorem sSum_at (k : Int) : sSum [.int .i64 k] = some (.bool (isSum k)) := rfl
theorem avalid_ok : FnOk Tryz.prog base 55 (pureS (h1 okAt)) := by
 refine pure_of_vc hmix Tava_ok globNone low55 fun args z hs hf => ?_
 obtain ⟨⟨k, p, a, b⟩, wp, rfl, rfl⟩ := h1_some hs
 refine ⟨by simp [lf55], ?_⟩
 simp only at wp
 have v1 := sSum_at k
 have v2 : g1 okPo [p.enc] = some (.bool p.ok) := g1_at wp
 have v3 : g1 bareP [p.enc] = some (.bool (decide (p = zPo))) := g1_at wp
 have ek : ∀ n : Int, (k == n) = decide (k = n) := fun n => rfl
 have ea : (a == 0) = decide (a = 0) := rfl
 have eb : (b == 0) = decide (b = 0) := rfl
 have nk : (k != 3) = decide (k ≠ 3) := by rw [bne, ek]; simp
 unfold okAt At.ok
 simp only
 cases hsum : isSum k with
 | true =>
  rw [hsum] at v1
  by_cases ha : a = 0
  ·by_cases hb : b = 0
   ·cases hok : p.ok with
    | false =>
     rw [hok] at v2
     simp only [At.enc, Po.enc, Fr.enc] at v1 v2 ⊢
     simp [lf55, v1, v2, ha, hb, Tava_mu, Tava_fns]
    | true =>
     rw [hok] at v2
     obtain ⟨ps, pc⟩ := p
     cases ps with
     | nil =>
      simp only [At.enc, Po.enc, Fr.enc, List.map_nil] at v1 v2 ⊢
      simp [lf55, v1, v2, ha, hb, headU, Tava_mu, Tava_fns]
     | cons x ps =>
      have v4 := sUnit_at (m := decide (k ≠ 3)) (wp.1 x (by simp)) (ok_part hok (by simp : x ∈ x :: ps))
      have hl0 : ((ps.length : Int) + 1 == 0) = false := by simp; omega
      have hp1 : (0 : Int) < (ps.length : Int) + 1 := by omega
      simp only [headU]
      obtain ⟨u, hu⟩ : ∃ u, u = unitF x.c (decide (k ≠ 3)) := ⟨_, rfl⟩
      rw [← hu] at v4 ⊢
      obtain ⟨nk3, hnk⟩ : ∃ u, u = decide (k ≠ 3) := ⟨_, rfl⟩
      rw [← hnk] at v4 nk
      simp only [At.enc, Po.enc, Fr.enc, Pa.enc, List.map_cons] at v1 v2 v4 ⊢
      simp [lf55, v1, v2, v4, nk, ha, hb, hl0, hp1, Tava_mu, Tava_fns]
   ·simp only [At.enc, Po.enc, Fr.enc] at v1 ⊢
    simp [lf55, v1, ha, eb, hb, Tava_mu, Tava_fns]
  ·simp only [At.enc, Po.enc, Fr.enc] at v1 ⊢
   simp [lf55, v1, ea, ha, Tava_mu, Tava_fns]
 | false =>
  rw [hsum] at v1
  obtain ⟨q, hq⟩ : ∃ q, q = decide (p = zPo) := ⟨_, rfl⟩
  rw [← hq] at v3 ⊢
  simp only [At.enc, Po.enc, Fr.enc] at v1 v3 ⊢
  by_cases h5 : k = 5
  ·subst h5
   by_cases ha : 0 ≤ a
   ·by_cases hab : a < b
    ·simp [lf55, v1, v3, ha, hab, Tava_mu, Tava_fns]
    ·simp [lf55, v1, v3, ha, hab, Tava_mu, Tava_fns]
   ·simp [lf55, v1, v3, ha, Tava_mu, Tava_fns]
  ·by_cases h6 : k = 6
   ·subst h6
    by_cases ha : 0 ≤ a
    ·by_cases hb : b = 0
     ·simp [lf55, v1, v3, ha, hb, Tava_mu, Tava_fns]
     ·simp [lf55, v1, v3, ha, eb, hb, Tava_mu, Tava_fns]
    ·simp [lf55, v1, v3, ha, Tava_mu, Tava_fns]
   ·simp [lf55, v1, ek, h5, h6, Tava_mu, Tava_fns]
instance : DecidableEq At := fun x y => if h : x.k = y.k ∧ x.p = y.p ∧ x.a = y.a ∧ x.b = y.b then .isTrue (by cases x; cases y; obtain ⟨a, b, c, d⟩ := h; simp_all) else .isFalse (fun e => h (by rw [e]; exact ⟨rfl, rfl, rfl, rfl⟩))
theorem at_eq {x y : At} : x = y ↔ x.k = y.k ∧ x.a = y.a ∧ x.b = y.b ∧ x.p = y.p := by
 cases x; cases y; simp; grind
def sameAt (x y : At) : PVal := .bool (decide (x = y))
def Taa : Tab := Tab.none.with 35 (pureS (g1 fewPoP))
theorem Taa_ok : TabOk Tryz.prog base Taa := Tab.with_ok Tab.none_ok apoly_ok
theorem Taa_mu (f : FuncId) (a : List AVal) (H : Heap) : Taa.mu f a H = none := (rfl)
theorem Taa_fns : Taa.fn 35 = (pureS (g1 fewPoP)) := (rfl)
def fewAt (x : At) : PVal := .bool (fewPo x.p)
theorem aatom_ok : FnOk Tryz.prog base 9 (pureS (h1 fewAt)) := by
 refine pure_of_vc hmix Taa_ok globNone low9 fun args z hs hf => ?_
 obtain ⟨x, wx, rfl, rfl⟩ := h1_some hs
 refine ⟨by simp [lf9], ?_⟩
 have v1 : g1 fewPoP [x.p.enc] = some (.bool (fewPo x.p)) := g1_at wx
 unfold fewAt
 obtain ⟨q, hq⟩ : ∃ q, q = fewPo x.p := ⟨_, rfl⟩
 rw [← hq] at v1 ⊢
 simp only [At.enc, Po.enc, Fr.enc] at v1 ⊢
 simp [lf9, v1, Taa_mu, Taa_fns]
end Go.Proofs.YtcfklmjgofknjaaGreat

/-
 atom: copies of sums, atoms of sums, opposites, what says nothing, what holds.
-/
namespace Go.Proofs.YtcfklmjgofknjaaGreat
open Go Go.Abs Go.Limbs
variable {base : Prot}
set_option maxRecDepth 20000
attribute [local irreducible] vc
attribute [local simp] pureS touchV freezeL fuel shiftV u64 au
def g1v (g : Po → PVal) : List PVal → Option PVal
 | [a] => match decPo a with | some p => if (p.few && p.ok) = true then some (g p) else none | _ => none
 | _ => none
theorem g1v_at {g : Po → PVal} {p : Po} (h : p.wf) (f1 : p.few = true) (f2 : p.ok = true) : g1v g [p.enc] = some (g p) := by simp only [g1v, decPo_enc h, f1, f2, Bool.and_self, if_true]
theorem g1v_some {g : Po → PVal} {args : List PVal} {z : PVal} (h : g1v g args = some z) : ∃ p : Po, p.wf ∧ p.few = true ∧ p.ok = true ∧ args = [p.enc] ∧ z = g p := by
 unfold g1v at h
 split at h
 ·split at h
  ·rename_i p hp
   obtain ⟨rfl, w⟩ := decPo_some hp
   split at h
   ·rename_i hf
    rw [Bool.and_eq_true] at hf
    cases h; exact ⟨p, w, hf.1, hf.2, rfl, rfl⟩
   ·cases h
  ·cases h
 ·cases h
def Tcp : Tab := Tab.none.with 89 (pureS sOwn)
theorem Tcp_ok : TabOk Tryz.prog base Tcp := Tab.with_ok Tab.none_ok lown_ok
theorem Tcp_mu (f : FuncId) (a : List AVal) (H : Heap) : Tcp.mu f a H = none := (rfl)
theorem Tcp_fns : Tcp.fn 89 = (pureS sOwn) := (rfl)
theorem lcopy_ok : FnOk Tryz.prog base 93 (pureS (g1v Po.enc)) := by
 refine pure_of_vc hmix Tcp_ok globNone low93 fun args z hs hf => ?_
 obtain ⟨p, wp, fp, op, rfl, rfl⟩ := g1v_some hs
 refine ⟨by simp [lf93], ?_⟩
 have hlen := few_le fp
 have hm := maxLen_ge
 have v1 := sOwn_ok wp.2 (ok_const op)
 simp only [Po.enc, Fr.enc] at v1 ⊢
 simp [lf93, v1, fillS, Tcp_mu, Tcp_fns]
 simp only [lf93_B0, vc_block]
 refine loop_ind (fun fr H => ∃ (i : Nat) (x : AVal) (ex : Heap), H = ⟨4, 0, false, [.p p.enc], 27⟩ :: ⟨4, 0, false, [.agg [x, .p (.bool p.c.s), .p (.lst (p.c.n.map u64)), .p (.lst (p.c.d.map u64))]], 27⟩ :: ex ∧
   i ≤ p.ps.length ∧ Grown 2 4 70 ((p.ps.take i).map Pa.enc) x ex ∧ fr 2 = .optr 1 0 0 0 ∧ fr 10 = .p (.lst (p.ps.map Pa.enc)) ∧ fr 11 = .p (.int .i64 p.ps.length) ∧ fr 12 = .p (.int .i64 i)) (fun fr _ => p.ps.length - ivar (fr 12))
  ⟨0, .tight [], [], by simp [Po.enc, Fr.enc], by omega, by simp; exact .nil _ _ _ _, by simp, by simp, by simp, by simp⟩ ?_
 rintro fr H ⟨i, x, ex, rfl, hi, hg, f2', f10, f11, f12⟩
 by_cases h1 : i < p.ps.length
 ·obtain ⟨y, hy⟩ : ∃ y, p.ps[i]? = some y := ⟨_, List.getElem?_eq_getElem h1⟩
  have hye := getE hy
  have hw := wrap_succ (i := i) (by omega)
  have htk := take_succ_get hy
  have vy := sOwn_ok (wp.1 y (List.mem_of_getElem? hy)) (ok_part op (List.mem_of_getElem? hy))
  have hnew : (p.ps.take (i + 1)).map Pa.enc = (p.ps.take i).map Pa.enc ++ [y.enc] := by rw [htk, List.map_append]; rfl
  obtain ⟨fl, hfl⟩ : ∃ fl, fl = (p.ps.take i).map Pa.enc := ⟨_, rfl⟩
  have hfll : fl.length ≤ 1000000 := by rw [hfl]; simp; omega
  rw [← hfl] at hg hnew
  obtain ⟨k', v', ex', happ, hg'⟩ := (hg.more [⟨4, 0, false, [.p y.enc], 70⟩, ⟨4, 0, false, [.p y.enc], 70⟩]).app
   (pre := [⟨4, 0, false, [.p p.enc], 27⟩, ⟨4, 0, false, [.agg [x, .p (.bool p.c.s), .p (.lst (p.c.n.map u64)), .p (.lst (p.c.d.map u64))]], 27⟩]) rfl (y := y.enc) rfl rfl (by omega) (bytes := 64) (by omega) (by omega)
  simp only [Fr.enc] at vy
  simp only [Po.enc, Fr.enc, Pa.enc, List.cons_append, List.nil_append] at happ
  rcases hg.form with rfl | ⟨kk, nn, vv, rfl⟩
  all_goals
   simp [f2', f10, f11, f12, h1, hye, Pa.enc, Po.enc, Fr.enc, getA, getA0, setA, setA0, Tcp_mu, Tcp_fns]
   rw [vc_regionW]
   refine ⟨[], ?_⟩
   simp [f2', f10, f11, f12, h1, hye, vy, hw, ivar, fillS, -appV, happ, Pa.enc, Po.enc, Fr.enc, getA, getA0, setA, setA0, Tcp_mu, Tcp_fns]
   exact ⟨snoc2', ⟨i + 1, _, _, ⟨rfl, rfl⟩, by omega, by rw [← List.map_take, hnew]; exact hg', by omega⟩, by omega⟩
 ·have hil : i = p.ps.length := by omega
  rw [hil, List.take_length] at hg
  rcases hg with ⟨he, rfl⟩ | ⟨j, v, rfl, hj⟩
  ·have hnil : p.ps = [] := by simpa using he
   have hi0 : i = 0 := by rw [hil, hnil]; rfl
   subst hi0
   simp [f2', f11, f12, hnil, Po.enc, Fr.enc, Tcp_mu, Tcp_fns]
  ·simp [f2', f11, f12, h1, hj, get2, mapO_pe, take_map, Po.enc, Fr.enc, Tcp_mu, Tcp_fns]
def sizeF (k : Int) (p : Po) : Fr := match p.ps with
 | [] => if signF p.c < 0 then negF p.c else p.c
 | x :: _ => if signF x.c < 0 ∧ k ≠ 3 then negF x.c else x.c
theorem wf_sizeF {k : Int} {p : Po} (h : p.wf) : (sizeF k p).wf := by
 unfold sizeF
 split
 ·split
  ·exact wf_negF _
  ·exact h.2
 ·rename_i x r hx
  split
  ·exact wf_negF _
  ·exact h.1 x (by rw [hx]; simp)
def sSize9 : List PVal → Option PVal
 | [.int .i64 k, a] => match decPo a with | some p => some (sizeF k p).enc | none => none
 | _ => none
theorem sSize9_at {k : Int} {p : Po} (h : p.wf) : sSize9 [.int .i64 k, p.enc] = some (sizeF k p).enc := by simp only [sSize9, decPo_enc h]
def Tasz : Tab := (Tab.none.with 56 (pureS (f1 signP))).with 44 (pureS (f1 negP))
theorem Tasz_ok : TabOk Tryz.prog base Tasz := Tab.with_ok (Tab.with_ok Tab.none_ok qsign_ok) qneg_ok
theorem Tasz_mu (f : FuncId) (a : List AVal) (H : Heap) : Tasz.mu f a H = none := (rfl)
theorem Tasz_fns : Tasz.fn 56 = (pureS (f1 signP)) ∧ Tasz.fn 44 = (pureS (f1 negP)) := ⟨rfl, rfl⟩
theorem asize_ok : FnOk Tryz.prog base 94 (pureS sSize9) := by
 refine pure_of_vc hmix Tasz_ok globNone low94 fun args z hs hf => ?_
 unfold sSize9 at hs
 split at hs
 case h_2 => cases hs
 rename_i k a
 split at hs
 case h_2 => cases hs
 rename_i p hp
 obtain ⟨rfl, wp⟩ := decPo_some hp
 cases hs
 refine ⟨by simp [lf94], ?_⟩
 have ek : (k != 3) = decide (k ≠ 3) := by rw [bne, show (k == 3) = decide (k = 3) from rfl]; simp
 obtain ⟨ps, pc⟩ := p
 cases ps with
 | nil =>
  have v1 : f1 signP [pc.enc] = some (.int .i64 (signF pc)) := f1_at wp.2
  have v2 : f1 negP [pc.enc] = some (negF pc).enc := f1_at wp.2
  unfold sizeF
  simp only
  obtain ⟨nc, hnc⟩ : ∃ n, n = negF pc := ⟨_, rfl⟩
  rw [← hnc] at v2 ⊢
  by_cases hs : signF pc < 0
  ·by_cases h3 : k = 3
   ·subst h3
    rw [if_pos hs]
    simp only [Po.enc, Fr.enc, List.map_nil] at v1 v2 ⊢
    simp [lf94, v1, v2, hs, Tasz_mu, Tasz_fns]
   ·rw [if_pos hs]
    rw [decide_eq_true h3] at ek
    simp only [Po.enc, Fr.enc, List.map_nil] at v1 v2 ⊢
    simp [lf94, v1, v2, hs, ek, Tasz_mu, Tasz_fns]
  ·rw [if_neg hs]
   simp only [Po.enc, Fr.enc, List.map_nil] at v1 v2 ⊢
   simp [lf94, v1, v2, hs, Tasz_mu, Tasz_fns]
 | cons x ps =>
  have wx : x.c.wf := wp.1 x (by simp)
  have v1 : f1 signP [x.c.enc] = some (.int .i64 (signF x.c)) := f1_at wx
  have v2 : f1 negP [x.c.enc] = some (negF x.c).enc := f1_at wx
  have hp1 : (0 : Int) < (ps.length : Int) + 1 := by omega
  have hp2 : ((ps.length : Int) + 1 == 0) = false := by simp; omega
  unfold sizeF
  simp only
  obtain ⟨nc, hnc⟩ : ∃ n, n = negF x.c := ⟨_, rfl⟩
  rw [← hnc] at v2 ⊢
  by_cases hs : signF x.c < 0
  ·by_cases h3 : k = 3
   ·subst h3
    rw [if_neg (by simp)]
    simp only [Po.enc, Fr.enc, Pa.enc, List.map_cons] at v1 v2 ⊢
    simp [lf94, v1, v2, hs, hp1, hp2, Tasz_mu, Tasz_fns]
   ·rw [if_pos ⟨hs, h3⟩]
    rw [decide_eq_true h3] at ek
    simp only [Po.enc, Fr.enc, Pa.enc, List.map_cons] at v1 v2 ⊢
    simp [lf94, v1, v2, hs, ek, hp1, hp2, Tasz_mu, Tasz_fns]
  ·rw [if_neg (fun h => hs h.1)]
   simp only [Po.enc, Fr.enc, Pa.enc, List.map_cons] at v1 v2 ⊢
   simp [lf94, v1, v2, hs, hp1, hp2, Tasz_mu, Tasz_fns]
end Go.Proofs.YtcfklmjgofknjaaGreat
