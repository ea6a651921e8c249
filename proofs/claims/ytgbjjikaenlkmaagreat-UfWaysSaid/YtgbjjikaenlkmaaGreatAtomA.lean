/-
  Atoms as pure values; atom's small functions. No conditions beyond the lemmas' own hypotheses.
-/
import Derived.Test.YtgbjjikaenlkmaaGreatLinD
import Derived.Test.YtgbjjikaenlkmaaGreatLinE
import Derived.Test.YtgbjjikaenlkmaaGreatAtomL
set_option linter.unusedSimpArgs false
set_option linter.unnecessarySimpa false
set_option linter.unusedVariables false
set_option linter.constructorNameAsVariable false

/-
 Atoms as pure values: what is one, the same, whether it is so; atom's small functions.
-/
namespace Go.Proofs.YtgbjjikaenlkmaaGreat
open Go Go.Abs Go.Limbs
variable {base : Prot}
set_option maxRecDepth 20000
attribute [local irreducible] vc
attribute [local simp] pureS touchV freezeL fuel shiftV u64 au
structure At where
 k : Int
 p : Po
 a : Int
 b : Int
def At.enc (x : At) : PVal := .agg [.int .i64 x.k, .lst (x.p.ps.map Pa.enc), .bool x.p.c.s, .lst (x.p.c.n.map u64), .lst (x.p.c.d.map u64), .int .i64 x.a, .int .i64 x.b]
def decAt : PVal → Option At
 | .agg [.int .i64 k, .lst vs, .bool s, .lst xs, .lst ys, .int .i64 a, .int .i64 b] => match decPs vs, decU xs, decU ys with | some ps, some l, some m => some ⟨k, ⟨ps, ⟨s, l, m⟩⟩, a, b⟩ | _, _, _ => none
 | _ => none
theorem decAt_enc {x : At} (h : x.p.wf) : decAt x.enc = some x := by simp only [decAt, At.enc, decPs_enc h.1, decU_map h.2.1, decU_map h.2.2]
theorem decAt_some {v : PVal} {x : At} (h : decAt v = some x) : v = x.enc ∧ x.p.wf := by
 unfold decAt at h
 split at h
 ·rename_i k vs s xs ys a b
  split at h
  ·rename_i ps l m hp hl hm
   cases h
   obtain ⟨rfl, wp⟩ := decPs_some hp
   obtain ⟨rfl, wl⟩ := decU_some hl
   obtain ⟨rfl, wm⟩ := decU_some hm
   exact ⟨rfl, wp, wl, wm⟩
  ·cases h
 ·cases h
def h1 (g : At → PVal) : List PVal → Option PVal
 | [a] => match decAt a with | some x => some (g x) | none => none
 | _ => none
def h2 (g : At → At → PVal) : List PVal → Option PVal
 | [a, b] => match decAt a, decAt b with | some x, some y => some (g x y) | _, _ => none
 | _ => none
def isSum (k : Int) : Bool := decide (k = 1) || (decide (k = 2) || decide (k = 3))
def unitF (c : Fr) (minus : Bool) : Bool := decide (c = ofQ 1) || (minus && decide (c = ofQ (-1)))
def headU (k : Int) : List Pa → Bool
 | [] => true
 | x :: _ => unitF x.c (decide (k ≠ 3))
def At.ok (x : At) : Bool :=
 if isSum x.k = true then decide (x.a = 0) && (decide (x.b = 0) && (x.p.ok && headU x.k x.p.ps))
 else if x.k = 5 then decide (0 ≤ x.a) && (decide (x.a < x.b) && decide (x.p = zPo))
 else if x.k = 6 then decide (0 ≤ x.a) && (decide (x.b = 0) && decide (x.p = zPo))
 else false
def zAt : At := ⟨0, zPo, 0, 0⟩
def soF (k : Int) (s : Int) : Bool := if k = 1 then decide (s ≤ 0) else if k = 2 then decide (s < 0) else decide (s = 0)
def sSum : List PVal → Option PVal
 | [.int .i64 k] => some (.bool (isSum k))
 | _ => none
theorem asum_ok : FnOk Tryz.prog base 76 (pureS sSum) := by
 refine pure_of_vc hmix Tab.none_ok globNone low76 fun args z hs hf => ?_
 unfold sSum at hs
 split at hs
 case h_2 => cases hs
 rename_i k
 cases hs
 refine ⟨by simp [lf76], ?_⟩
 unfold isSum
 have e : ∀ n : Int, (k == n) = decide (k = n) := fun n => rfl
 by_cases h1 : k = 1
 ·subst h1; simp [lf76]
 ·by_cases h2 : k = 2
  ·subst h2; simp [lf76]
  ·simp [lf76, e, h1, h2]
theorem sSum_at (k : Int) : sSum [.int .i64 k] = some (.bool (isSum k)) := rfl
instance : DecidableEq At := fun x y => if h : x.k = y.k ∧ x.p = y.p ∧ x.a = y.a ∧ x.b = y.b then .isTrue (by cases x; cases y; obtain ⟨a, b, c, d⟩ := h; simp_all) else .isFalse (fun e => h (by rw [e]; exact ⟨rfl, rfl, rfl, rfl⟩))
end Go.Proofs.YtgbjjikaenlkmaaGreat

/-
 atom: copies of sums, atoms of sums, opposites, what says nothing, what holds.
-/
namespace Go.Proofs.YtgbjjikaenlkmaaGreat
open Go Go.Abs Go.Limbs
variable {base : Prot}
set_option maxRecDepth 20000
attribute [local irreducible] vc
attribute [local simp] pureS touchV freezeL fuel shiftV u64 au
def g1v (g : Po → PVal) : List PVal → Option PVal
 | [a] => match decPo a with | some p => if (p.few && p.ok) = true then some (g p) else none | _ => none
 | _ => none
theorem g1v_at {g : Po → PVal} {p : Po} (h : p.wf) (f1 : p.few = true) (f2 : p.ok = true) : g1v g [p.enc] = some (g p) := by simp only [g1v, decPo_enc h, f1, f2, Bool.and_self, if_true]
theorem g1v_some {g : Po → PVal} {args : List PVal} {z : PVal} (h : g1v g args = some z) : ∃ p : Po, p.wf ∧ p.few = true ∧ p.ok = true ∧ args = [p.enc] ∧ z = g p := by
 unfold g1v at h
 split at h
 ·split at h
  ·rename_i p hp
   obtain ⟨rfl, w⟩ := decPo_some hp
   split at h
   ·rename_i hf
    rw [Bool.and_eq_true] at hf
    cases h; exact ⟨p, w, hf.1, hf.2, rfl, rfl⟩
   ·cases h
  ·cases h
 ·cases h
def Tcp : Tab := Tab.none.with 75 (pureS sOwn)
theorem Tcp_ok : TabOk Tryz.prog base Tcp := Tab.with_ok Tab.none_ok lown_ok
theorem Tcp_mu (f : FuncId) (a : List AVal) (H : Heap) : Tcp.mu f a H = none := (rfl)
theorem Tcp_fns : Tcp.fn 75 = (pureS sOwn) := (rfl)
theorem lcopy_ok : FnOk Tryz.prog base 77 (pureS (g1v Po.enc)) := by
 refine pure_of_vc hmix Tcp_ok globNone low77 fun args z hs hf => ?_
 obtain ⟨p, wp, fp, op, rfl, rfl⟩ := g1v_some hs
 refine ⟨by simp [lf77], ?_⟩
 have hlen := few_le fp
 have hm := maxLen_ge
 have v1 := sOwn_ok wp.2 (ok_const op)
 simp only [Po.enc, Fr.enc] at v1 ⊢
 simp [lf77, v1, fillS, Tcp_mu, Tcp_fns]
 simp only [lf77_B0, vc_block]
 refine loop_ind (fun fr H => ∃ (i : Nat) (x : AVal) (ex : Heap), H = ⟨4, 0, false, [.p p.enc], 76⟩ :: ⟨4, 0, false, [.agg [x, .p (.bool p.c.s), .p (.lst (p.c.n.map u64)), .p (.lst (p.c.d.map u64))]], 76⟩ :: ex ∧
   i ≤ p.ps.length ∧ Grown 2 4 93 ((p.ps.take i).map Pa.enc) x ex ∧ fr 2 = .optr 1 0 0 0 ∧ fr 10 = .p (.lst (p.ps.map Pa.enc)) ∧ fr 11 = .p (.int .i64 p.ps.length) ∧ fr 12 = .p (.int .i64 i)) (fun fr _ => p.ps.length - ivar (fr 12))
  ⟨0, .tight [], [], by simp [Po.enc, Fr.enc], by omega, by simp; exact .nil _ _ _ _, by simp, by simp, by simp, by simp⟩ ?_
 rintro fr H ⟨i, x, ex, rfl, hi, hg, f2', f10, f11, f12⟩
 by_cases h1 : i < p.ps.length
 ·obtain ⟨y, hy⟩ : ∃ y, p.ps[i]? = some y := ⟨_, List.getElem?_eq_getElem h1⟩
  have hye := getE hy
  have hw := wrap_succ (i := i) (by omega)
  have htk := take_succ_get hy
  have vy := sOwn_ok (wp.1 y (List.mem_of_getElem? hy)) (ok_part op (List.mem_of_getElem? hy))
  have hnew : (p.ps.take (i + 1)).map Pa.enc = (p.ps.take i).map Pa.enc ++ [y.enc] := by rw [htk, List.map_append]; rfl
  obtain ⟨fl, hfl⟩ : ∃ fl, fl = (p.ps.take i).map Pa.enc := ⟨_, rfl⟩
  have hfll : fl.length ≤ 1000000 := by rw [hfl]; simp; omega
  rw [← hfl] at hg hnew
  obtain ⟨k', v', ex', happ, hg'⟩ := (hg.more [⟨4, 0, false, [.p y.enc], 93⟩, ⟨4, 0, false, [.p y.enc], 93⟩]).app
   (pre := [⟨4, 0, false, [.p p.enc], 76⟩, ⟨4, 0, false, [.agg [x, .p (.bool p.c.s), .p (.lst (p.c.n.map u64)), .p (.lst (p.c.d.map u64))]], 76⟩]) rfl (y := y.enc) rfl rfl (by omega) (bytes := 64) (by omega) (by omega)
  simp only [Fr.enc] at vy
  simp only [Po.enc, Fr.enc, Pa.enc, List.cons_append, List.nil_append] at happ
  rcases hg.form with rfl | ⟨kk, nn, vv, rfl⟩
  all_goals
   simp [f2', f10, f11, f12, h1, hye, Pa.enc, Po.enc, Fr.enc, getA, getA0, setA, setA0, Tcp_mu, Tcp_fns]
   rw [vc_regionW]
   refine ⟨[], ?_⟩
   simp [f2', f10, f11, f12, h1, hye, vy, hw, ivar, fillS, -appV, happ, Pa.enc, Po.enc, Fr.enc, getA, getA0, setA, setA0, Tcp_mu, Tcp_fns]
   exact ⟨snoc2', ⟨i + 1, _, _, ⟨rfl, rfl⟩, by omega, by rw [← List.map_take, hnew]; exact hg', by omega⟩, by omega⟩
 ·have hil : i = p.ps.length := by omega
  rw [hil, List.take_length] at hg
  rcases hg with ⟨he, rfl⟩ | ⟨j, v, rfl, hj⟩
  ·have hnil : p.ps = [] := by simpa using he
   have hi0 : i = 0 := by rw [hil, hnil]; rfl
   subst hi0
   simp [f2', f11, f12, hnil, Po.enc, Fr.enc, Tcp_mu, Tcp_fns]
  ·simp [f2', f11, f12, h1, hj, get2, mapO_pe, take_map, Po.enc, Fr.enc, Tcp_mu, Tcp_fns]
def sizeF (k : Int) (p : Po) : Fr := match p.ps with
 | [] => if signF p.c < 0 then negF p.c else p.c
 | x :: _ => if signF x.c < 0 ∧ k ≠ 3 then negF x.c else x.c
theorem wf_sizeF {k : Int} {p : Po} (h : p.wf) : (sizeF k p).wf := by
 unfold sizeF
 split
 ·split
  ·exact wf_negF _
  ·exact h.2
 ·rename_i x r hx
  split
  ·exact wf_negF _
  ·exact h.1 x (by rw [hx]; simp)
def sSize9 : List PVal → Option PVal
 | [.int .i64 k, a] => match decPo a with | some p => some (sizeF k p).enc | none => none
 | _ => none
theorem sSize9_at {k : Int} {p : Po} (h : p.wf) : sSize9 [.int .i64 k, p.enc] = some (sizeF k p).enc := by simp only [sSize9, decPo_enc h]
def Tasz : Tab := (Tab.none.with 71 (pureS (f1 signP))).with 118 (pureS (f1 negP))
theorem Tasz_ok : TabOk Tryz.prog base Tasz := Tab.with_ok (Tab.with_ok Tab.none_ok qsign_ok) qneg_ok
theorem Tasz_mu (f : FuncId) (a : List AVal) (H : Heap) : Tasz.mu f a H = none := (rfl)
theorem Tasz_fns : Tasz.fn 71 = (pureS (f1 signP)) ∧ Tasz.fn 118 = (pureS (f1 negP)) := ⟨rfl, rfl⟩
theorem asize_ok : FnOk Tryz.prog base 78 (pureS sSize9) := by
 refine pure_of_vc hmix Tasz_ok globNone low78 fun args z hs hf => ?_
 unfold sSize9 at hs
 split at hs
 case h_2 => cases hs
 rename_i k a
 split at hs
 case h_2 => cases hs
 rename_i p hp
 obtain ⟨rfl, wp⟩ := decPo_some hp
 cases hs
 refine ⟨by simp [lf78], ?_⟩
 have ek : (k != 3) = decide (k ≠ 3) := by rw [bne, show (k == 3) = decide (k = 3) from rfl]; simp
 obtain ⟨ps, pc⟩ := p
 cases ps with
 | nil =>
  have v1 : f1 signP [pc.enc] = some (.int .i64 (signF pc)) := f1_at wp.2
  have v2 : f1 negP [pc.enc] = some (negF pc).enc := f1_at wp.2
  unfold sizeF
  simp only
  obtain ⟨nc, hnc⟩ : ∃ n, n = negF pc := ⟨_, rfl⟩
  rw [← hnc] at v2 ⊢
  by_cases hs : signF pc < 0
  ·by_cases h3 : k = 3
   ·subst h3
    rw [if_pos hs]
    simp only [Po.enc, Fr.enc, List.map_nil] at v1 v2 ⊢
    simp [lf78, v1, v2, hs, Tasz_mu, Tasz_fns]
   ·rw [if_pos hs]
    rw [decide_eq_true h3] at ek
    simp only [Po.enc, Fr.enc, List.map_nil] at v1 v2 ⊢
    simp [lf78, v1, v2, hs, ek, Tasz_mu, Tasz_fns]
  ·rw [if_neg hs]
   simp only [Po.enc, Fr.enc, List.map_nil] at v1 v2 ⊢
   simp [lf78, v1, v2, hs, Tasz_mu, Tasz_fns]
 | cons x ps =>
  have wx : x.c.wf := wp.1 x (by simp)
  have v1 : f1 signP [x.c.enc] = some (.int .i64 (signF x.c)) := f1_at wx
  have v2 : f1 negP [x.c.enc] = some (negF x.c).enc := f1_at wx
  have hp1 : (0 : Int) < (ps.length : Int) + 1 := by omega
  have hp2 : ((ps.length : Int) + 1 == 0) = false := by simp; omega
  unfold sizeF
  simp only
  obtain ⟨nc, hnc⟩ : ∃ n, n = negF x.c := ⟨_, rfl⟩
  rw [← hnc] at v2 ⊢
  by_cases hs : signF x.c < 0
  ·by_cases h3 : k = 3
   ·subst h3
    rw [if_neg (by simp)]
    simp only [Po.enc, Fr.enc, Pa.enc, List.map_cons] at v1 v2 ⊢
    simp [lf78, v1, v2, hs, hp1, hp2, Tasz_mu, Tasz_fns]
   ·rw [if_pos ⟨hs, h3⟩]
    rw [decide_eq_true h3] at ek
    simp only [Po.enc, Fr.enc, Pa.enc, List.map_cons] at v1 v2 ⊢
    simp [lf78, v1, v2, hs, ek, hp1, hp2, Tasz_mu, Tasz_fns]
  ·rw [if_neg (fun h => hs h.1)]
   simp only [Po.enc, Fr.enc, Pa.enc, List.map_cons] at v1 v2 ⊢
   simp [lf78, v1, v2, hs, hp1, hp2, Tasz_mu, Tasz_fns]
end Go.Proofs.YtgbjjikaenlkmaaGreat
