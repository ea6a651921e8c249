/-
  What the reference's functions of sums compute, for at most a million parts.
-/
import Derived.Test.YtepfpgnjpkcgmaaGreatLinD
import Derived.Test.YtepfpgnjpkcgmaaGreatRatM
set_option linter.unusedSimpArgs false
set_option linter.unnecessarySimpa false
set_option linter.unusedVariables false
set_option linter.constructorNameAsVariable false

/-
 The reference's sums: what is one, a term's number, without a term, the same.
-/
namespace Go.Proofs.YtepfpgnjpkcgmaaGreat
open Go Go.Abs Go.Limbs
variable {base : Prot}
set_option maxRecDepth 20000
attribute [local irreducible] vc
attribute [local simp] pureS touchV freezeL fuel shiftV u64 au
def Trz : Tab := ((Tab.none.with 82 (pureS sQOf)).with 50 (pureS (f1 boolF))).with 29 (pureS (f2 sameP))
theorem Trz_ok : TabOk Tryz.prog base Trz := Tab.with_ok (Tab.with_ok (Tab.with_ok Tab.none_ok rofR_ok) rvalidR_ok) rsame_ok
theorem Trz_mu (f : FuncId) (a : List AVal) (H : Heap) : Trz.mu f a H = none := (rfl)
theorem Trz_fns : Trz.fn 82 = (pureS sQOf) ∧ Trz.fn 50 = (pureS (f1 boolF)) ∧ Trz.fn 29 = (pureS (f2 sameP)) := ⟨rfl, rfl, rfl⟩
theorem z1_eq : Rat.divInt 0 1 = 0 := by decide +kernel
theorem rzero_ok : FnOk Tryz.prog base 91 (pureS sQZero) := by
 refine pure_of_vc hmix Trz_ok globNone low91 fun args z hs hf => ?_
 unfold sQZero at hs
 split at hs
 case h_2 => cases hs
 cases hs
 refine ⟨by simp [lf91], ?_⟩
 have o1 := ofR (n := 0) (d := 1) (by decide)
 rw [z1_eq] at o1
 obtain ⟨x, hx⟩ : ∃ x, x = ofQ 0 := ⟨_, rfl⟩
 rw [← hx] at o1 ⊢
 simp only [Fr.enc] at o1 ⊢
 simp [lf91, o1, Trz_mu, Trz_fns]
theorem rpvalid_ok : FnOk Tryz.prog base 31 (pureS (g1 okPo)) := by
 refine pure_of_vc hmix Trz_ok globNone low31 fun args z hs hf => ?_
 obtain ⟨p, wp, rfl, rfl⟩ := g1_some hs
 refine ⟨by simp [lf31], ?_⟩
 unfold okPo
 have hlen := len_ps (hf _ (List.mem_singleton.2 rfl))
 have hc : f1 boolF [p.c.enc] = some (.bool p.c.ok) := vF wp.2
 simp only [Po.enc, Fr.enc] at hc ⊢
 simp [lf31, fillS]
 simp only [lf31_B0, vc_block]
 refine loop_ind (fun fr H => ∃ (i : Nat) (ex : Heap), H = ⟨4, 0, false, [.p p.enc], 27⟩ :: ex ∧ i ≤ p.ps.length ∧ okParts (-1) p.ps = okParts (lastT p.ps i) (p.ps.drop i) ∧ fr 1 = .optr 0 0 0 0 ∧ fr 3 = .p (.int .i64 (lastT p.ps i)) ∧ fr 4 = .p (.int .i64 i)) (fun fr _ => p.ps.length - ivar (fr 4))
  ⟨0, [], by simp [Po.enc, Fr.enc], by omega, rfl, by simp, by simp [lastT], by simp⟩ ?_
 rintro fr H ⟨i, ex, rfl, hi, hok, f1', f3, f4⟩
 by_cases h1 : i < p.ps.length
 ·obtain ⟨x, hx⟩ : ∃ x, p.ps[i]? = some x := ⟨_, List.getElem?_eq_getElem h1⟩
  have wx : x.c.wf := wp.1 x (List.mem_of_getElem? hx)
  have hv : f1 boolF [x.c.enc] = some (.bool x.c.ok) := vF wx
  simp only [Fr.enc] at hv
  have hxe := getE hx
  have hw := wrap_succ (i := i) (by omega)
  rw [okParts_at hx] at hok
  have hlx : lastT p.ps (i + 1) = x.t := by simp only [lastT, hx]
  have bad : (decide (lastT p.ps i < x.t) && x.c.ok && !decide (x.c.n = [])) = false → p.ok = false := fun h => by
   unfold Po.ok
   rw [hok, h]
   rfl
  by_cases ha : x.t ≤ lastT p.ps i
  ·rw [bad (by rw [decide_eq_false (show ¬ lastT p.ps i < x.t by omega)]; rfl)]
   simp [f1', f3, f4, h1, hxe, Pa.enc, Po.enc, Fr.enc, ha, binS, getA, getA0, setA, setA0, Trz_mu, Trz_fns]
  ·cases hvk : x.c.ok with
   | false =>
    rw [hvk] at hv
    rw [bad (by rw [hvk]; simp)]
    simp [f1', f3, f4, h1, hxe, Pa.enc, Po.enc, Fr.enc, ha, hv, binS, getA, getA0, setA, setA0, Trz_mu, Trz_fns]
   | true =>
    rw [hvk] at hv
    by_cases hn : x.c.n = []
    ·rw [bad (by rw [decide_eq_true hn]; simp)]
     rw [hn] at hv
     simp only [List.map_nil] at hv
     simp [f1', f3, f4, h1, hxe, Pa.enc, Po.enc, Fr.enc, ha, hv, hn, binS, getA, getA0, setA, setA0, Trz_mu, Trz_fns]
    ·have hn0 : ((x.c.n.length : Int) == 0) = false := by
      have := List.length_pos_iff.2 hn
      simp; exact hn
     have hg : okParts (-1) p.ps = okParts (lastT p.ps (i + 1)) (p.ps.drop (i + 1)) := by rw [hok, decide_eq_true (show lastT p.ps i < x.t by omega), hvk, decide_eq_false hn]; rfl
     simp [f1', f3, f4, h1, hxe, Pa.enc, Po.enc, Fr.enc, ha, hv, hn, hn0, hw, binS, ivar, getA, getA0, setA, setA0, Trz_mu, Trz_fns]
     exact ⟨⟨i + 1, by omega, hg, hlx.symm, by omega⟩, by omega⟩
 ·have hil : i = p.ps.length := by omega
  rw [hil, List.drop_length] at hok
  have : p.ok = p.c.ok := by unfold Po.ok; rw [hok]; rfl
  rw [this]
  simp [f1', f4, h1, Po.enc, Fr.enc, hc, Trz_mu, Trz_fns]
def Trco : Tab := (Tab.none.with 31 (pureS (g1 okPo))).with 91 (pureS sQZero)
theorem Trco_ok : TabOk Tryz.prog base Trco := Tab.with_ok (Tab.with_ok Tab.none_ok rpvalid_ok) rzero_ok
theorem Trco_mu (f : FuncId) (a : List AVal) (H : Heap) : Trco.mu f a H = none := (rfl)
theorem Trco_fns : Trco.fn 31 = (pureS (g1 okPo)) ∧ Trco.fn 91 = (pureS sQZero) := ⟨rfl, rfl⟩
theorem findF_drop {t : Int} {l : List Pa} {i : Nat} {x : Pa} (hx : l[i]? = some x) : findF t (l.drop i) = if x.t = t then some x.c else findF t (l.drop (i + 1)) := by
 have hi := (List.getElem?_eq_some_iff.1 hx).1
 rw [List.drop_eq_getElem_cons hi, getE hx]
 rfl
theorem rcoef_ok : FnOk Tryz.prog base 33 (pureS (gi coefP)) := by
 refine pure_of_vc hmix Trco_ok globNone low33 fun args z hs hf => ?_
 obtain ⟨p, t, wp, rfl, rfl⟩ := gi_some hs
 refine ⟨by simp [lf33], ?_⟩
 have hlen := len_ps (hf p.enc (by simp))
 have v1 : g1 okPo [p.enc] = some (.bool p.ok) := g1_at wp
 have v2 := sQZero_nil
 unfold coefP
 have hc1 : ∀ c, findF t p.ps = some c → coefPo p t = if p.ok then c else ofQ 0 := fun c h => by unfold coefPo; rw [h]
 have hc2 : findF t p.ps = none → coefPo p t = ofQ 0 := fun h => by unfold coefPo; rw [h]
 have hc3 : p.ok = false → coefPo p t = ofQ 0 := fun h => by unfold coefPo; rw [h]; cases findF t p.ps <;> rfl
 obtain ⟨r, hr⟩ : ∃ r, r = coefPo p t := ⟨_, rfl⟩
 rw [← hr] at hc1 hc2 hc3 ⊢
 obtain ⟨z0, hz0⟩ : ∃ z0, z0 = ofQ 0 := ⟨_, rfl⟩
 rw [← hz0] at v2 hc1 hc2 hc3
 simp only [Po.enc, Fr.enc] at v1 v2 ⊢
 simp [lf33, fillS]
 simp only [lf33_B0, vc_block]
 refine loop_ind (fun fr H => ∃ i : Nat, H = [⟨4, 0, false, [.p p.enc], 27⟩, ⟨3, 0, false, [.agg [.p (.bool false), .tight [], .tight []]], 25⟩] ∧ i ≤ p.ps.length ∧ findF t p.ps = findF t (p.ps.drop i) ∧ fr 1 = .p (.int .i64 t) ∧ fr 2 = .optr 0 0 0 0 ∧ fr 4 = .optr 1 0 0 0 ∧ fr 5 = .p (.int .i64 i)) (fun fr _ => p.ps.length - ivar (fr 5))
  ⟨0, by simp [Po.enc, Fr.enc], by omega, rfl, by simp, by simp, by simp, by simp⟩ ?_
 rintro fr H ⟨i, rfl, hi, hfi, f1', f2', f4', f5⟩
 by_cases h1 : i < p.ps.length
 ·obtain ⟨x, hx⟩ : ∃ x, p.ps[i]? = some x := ⟨_, List.getElem?_eq_getElem h1⟩
  have hxe := getE hx
  have hw := wrap_succ (i := i) (by omega)
  rw [findF_drop hx] at hfi
  cases hok : p.ok with
  | false =>
   rw [hok] at v1
   have : r = z0 := hc3 hok
   rw [this]
   simp [f1', f2', f4', f5, h1, Po.enc, Fr.enc, v1, v2, Trco_mu, Trco_fns]
  | true =>
   rw [hok] at v1
   by_cases ht : x.t = t
   ·rw [if_pos ht] at hfi
    have : r = x.c := by rw [hc1 _ hfi, hok]; rfl
    rw [this]
    simp [f1', f2', f4', f5, h1, hxe, ht, Pa.enc, Po.enc, Fr.enc, v1, Trco_mu, Trco_fns]
   ·rw [if_neg ht] at hfi
    have ht2 : (x.t == t) = false := by simp [ht]
    simp [f1', f2', f4', f5, h1, hxe, ht2, hw, ivar, Pa.enc, Po.enc, Fr.enc, v1, Trco_mu, Trco_fns]
    exact ⟨⟨i + 1, by omega, hfi, by omega⟩, by omega⟩
 ·have hil : i = p.ps.length := by omega
  rw [hil, List.drop_length] at hfi
  have : r = z0 := hc2 hfi
  rw [this]
  simp [f1', f2', f4', f5, h1, Po.enc, Fr.enc, v2, Trco_mu, Trco_fns]
end Go.Proofs.YtepfpgnjpkcgmaaGreat

/-
 The reference's sums: without a term, multiples.
-/
namespace Go.Proofs.YtepfpgnjpkcgmaaGreat
open Go Go.Abs Go.Limbs
variable {base : Prot}
set_option maxRecDepth 20000
attribute [local irreducible] vc
attribute [local simp] pureS touchV freezeL fuel shiftV u64 au
def neT (t : Int) (x : Pa) : Bool := !decide (x.t = t)
theorem filter_all {t : Int} : ∀ {l : List Pa} {a : Int}, okParts a l = true → t ≤ a → l.filter (neT t) = l
 | [], _, _, _ => rfl
 | x :: r, a, h, ha => by
  simp only [okParts, Bool.and_eq_true, decide_eq_true_eq] at h
  have h1 := h.1.1.1
  rw [List.filter_cons, if_pos (by simp [neT]; omega), filter_all h.2 (by omega)]
theorem filter_drop {t : Int} : ∀ {l : List Pa} {a : Int}, okParts a l = true → l.filter (neT t) = dropF t l
 | [], _, _ => rfl
 | x :: r, a, h => by
  simp only [okParts, Bool.and_eq_true, decide_eq_true_eq] at h
  unfold dropF
  by_cases ht : x.t = t
  ·rw [if_pos ht, List.filter_cons, if_neg (by simp [neT, ht]), filter_all h.2 (by omega)]
  ·rw [if_neg ht, List.filter_cons, if_pos (by simp [neT, ht]), filter_drop h.2]
def giv (g : Po → Int → PVal) : List PVal → Option PVal
 | [a, .int .i64 t] => match decPo a with | some p => if (p.few && p.ok) = true then some (g p t) else none | _ => none
 | _ => none
theorem giv_at {g : Po → Int → PVal} {p : Po} {t : Int} (h : p.wf) (f1 : p.few = true) (f2 : p.ok = true) : giv g [p.enc, .int .i64 t] = some (g p t) := by simp only [giv, decPo_enc h, f1, f2, Bool.and_self, if_true]
theorem giv_some {g : Po → Int → PVal} {args : List PVal} {z : PVal} (h : giv g args = some z) : ∃ (p : Po) (t : Int), p.wf ∧ p.few = true ∧ p.ok = true ∧ args = [p.enc, .int .i64 t] ∧ z = g p t := by
 unfold giv at h
 split at h
 ·split at h
  ·rename_i p hp
   obtain ⟨rfl, w⟩ := decPo_some hp
   split at h
   ·rename_i hf
    rw [Bool.and_eq_true] at hf
    cases h; exact ⟨p, _, w, hf.1, hf.2, rfl, rfl⟩
   ·cases h
  ·cases h
 ·cases h
theorem rwithout_ok : FnOk Tryz.prog base 98 (pureS (giv withoutP)) := by
 refine pure_of_vc hmix Tab.none_ok globNone low98 fun args z hs hf => ?_
 obtain ⟨p, t, wp, fp, op, rfl, rfl⟩ := giv_some hs
 refine ⟨by simp [lf98], ?_⟩
 have hlen := few_le fp
 have hm := maxLen_ge
 unfold withoutP withoutPo
 have hop := op
 unfold Po.ok at hop
 rw [Bool.and_eq_true] at hop
 rw [← filter_drop hop.1]
 simp only [Po.enc, Fr.enc]
 simp [lf98, fillS]
 simp only [lf98_B0, vc_block]
 refine loop_ind (fun fr H => ∃ (i : Nat) (x : AVal) (ex : Heap), H = ⟨4, 0, false, [.p p.enc], 27⟩ :: ⟨4, 0, false, [.agg [.tight [], .p (.bool false), .tight [], .tight []]], 27⟩ :: ⟨4, 0, false, [.agg [x, .p (.bool p.c.s), .p (.lst (p.c.n.map u64)), .p (.lst (p.c.d.map u64))]], 27⟩ :: ex ∧
   i ≤ p.ps.length ∧ Grown 3 4 112 (((p.ps.take i).filter (neT t)).map Pa.enc) x ex ∧ fr 1 = .p (.int .i64 t) ∧ fr 2 = .optr 0 0 0 0 ∧ fr 4 = .optr 1 0 0 0 ∧ fr 5 = .optr 2 0 0 0 ∧ fr 6 = .p (.int .i64 i)) (fun fr _ => p.ps.length - ivar (fr 6))
  ⟨0, .tight [], [], by simp [Po.enc, Fr.enc], by omega, by simp; exact .nil _ _ _ _, by simp, by simp, by simp, by simp, by simp⟩ ?_
 rintro fr H ⟨i, x, ex, rfl, hi, hg, f1', f2', f4', f5, f6⟩
 by_cases h1 : i < p.ps.length
 ·obtain ⟨y, hy⟩ : ∃ y, p.ps[i]? = some y := ⟨_, List.getElem?_eq_getElem h1⟩
  have hye := getE hy
  have hw := wrap_succ (i := i) (by omega)
  have htk := take_succ_get hy
  by_cases ht : y.t = t
  ·have ht2 : (y.t != t) = false := by simp [ht]
   have ht3 : (y.t == t) = true := by simp [ht]
   rcases hg.form with rfl | ⟨kk, nn, vv, rfl⟩
   all_goals
    simp [f1', f2', f4', f5, f6, h1, hye, ht2, ht3, hw, ivar, Pa.enc, Po.enc, Fr.enc]
    exact ⟨⟨i + 1, _, _, ⟨rfl, rfl⟩, by omega, by rw [htk, List.filter_append, List.filter_cons, if_neg (by simp [neT, ht])]; simpa using hg, by omega⟩, by omega⟩
  ·have ht2 : (y.t != t) = true := by simp [ht]
   have ht3 : (y.t == t) = false := by simp [ht]
   have hfl : ((p.ps.take i).filter (neT t)).length ≤ i := Nat.le_trans (List.length_filter_le _ _) (by simp; omega)
   obtain ⟨k', v', ex', happ, hg'⟩ := (hg.more [⟨4, 0, false, [.p y.enc], 112⟩]).app (pre := [⟨4, 0, false, [.p p.enc], 27⟩, ⟨4, 0, false, [.agg [.tight [], .p (.bool false), .tight [], .tight []]], 27⟩, ⟨4, 0, false, [.agg [x, .p (.bool p.c.s), .p (.lst (p.c.n.map u64)), .p (.lst (p.c.d.map u64))]], 27⟩]) rfl (y := y.enc) rfl rfl (by omega) (bytes := 64) (by rw [List.length_map]; omega) (by rw [List.length_map]; omega)
   obtain ⟨fl, hfl2⟩ : ∃ fl, fl = (p.ps.take i).filter (neT t) := ⟨_, rfl⟩
   rw [← hfl2] at happ hg' hg
   have hnew : (p.ps.take (i + 1)).filter (neT t) = fl ++ [y] := by rw [htk, List.filter_append, List.filter_cons, if_pos (by simp [neT, ht]), hfl2]; rfl
   simp only [Po.enc, Fr.enc, Pa.enc, List.cons_append, List.nil_append] at happ
   rcases hg.form with rfl | ⟨kk, nn, vv, rfl⟩
   all_goals
    simp [f1', f2', f4', f5, f6, h1, hye, ht2, ht3, Pa.enc, Po.enc, Fr.enc]
    rw [vc_regionW]
    refine ⟨[], ?_⟩
    simp [f1', f2', f4', f5, f6, h1, hye, ht2, ht3, hw, ivar, fillS, -appV, happ, Pa.enc, Po.enc, Fr.enc, getA, getA0, setA, setA0]
    exact ⟨snoc3, ⟨i + 1, _, _, ⟨rfl, rfl⟩, by omega, by rw [hnew]; simpa using hg', by omega⟩, by omega⟩
 ·have hil : i = p.ps.length := by omega
  rw [hil, List.take_length] at hg
  obtain ⟨fl, hfl⟩ : ∃ fl, fl = p.ps.filter (neT t) := ⟨_, rfl⟩
  rw [← hfl] at hg ⊢
  rcases hg with ⟨he, rfl⟩ | ⟨j, v, rfl, hj⟩
  ·have : fl = [] := by simpa using he
   subst this
   simp [f1', f2', f4', f5, f6, h1, Po.enc, Fr.enc]
  ·simp [f1', f2', f4', f5, f6, h1, hj, get3, mapO_pe, take_map, Po.enc, Fr.enc]
end Go.Proofs.YtepfpgnjpkcgmaaGreat

/-
 The reference's sums: sums; what a term is where a sum is 0.
-/
namespace Go.Proofs.YtepfpgnjpkcgmaaGreat
open Go Go.Abs Go.Limbs
variable {base : Prot}
set_option maxRecDepth 20000
attribute [local irreducible] vc
attribute [local simp] pureS touchV freezeL fuel shiftV u64 au
end Go.Proofs.YtepfpgnjpkcgmaaGreat

/-
 The reference's sums: sums of any; what a term is where a sum is 0; what is told of ids, and values.
-/
namespace Go.Proofs.YtepfpgnjpkcgmaaGreat
open Go Go.Abs Go.Limbs
variable {base : Prot}
set_option maxRecDepth 20000
attribute [local irreducible] vc
attribute [local simp] pureS touchV freezeL fuel shiftV u64 au
structure Bd where
 id : Int
 x : Fr
def Bd.enc (b : Bd) : PVal := .agg [.int .i64 b.id, .bool b.x.s, .lst (b.x.n.map u64), .lst (b.x.d.map u64)]
def wfB (l : List Bd) : Prop := ∀ b ∈ l, b.x.wf
def decBd : PVal → Option Bd
 | .agg [.int .i64 t, .bool s, .lst xs, .lst ys] => match decU xs, decU ys with | some l, some m => some ⟨t, ⟨s, l, m⟩⟩ | _, _ => none
 | _ => none
theorem decBd_enc {b : Bd} (h : b.x.wf) : decBd b.enc = some b := by simp only [decBd, Bd.enc, decU_map h.1, decU_map h.2]
theorem decBd_some {v : PVal} {b : Bd} (h : decBd v = some b) : v = b.enc ∧ b.x.wf := by
 unfold decBd at h
 split at h
 ·rename_i t s xs ys
  split at h
  ·rename_i l m hl hm
   cases h
   obtain ⟨rfl, wl⟩ := decU_some hl
   obtain ⟨rfl, wm⟩ := decU_some hm
   exact ⟨rfl, wl, wm⟩
  ·cases h
 ·cases h
def decBs : List PVal → Option (List Bd)
 | [] => some []
 | v :: r => match decBd v, decBs r with | some x, some l => some (x :: l) | _, _ => none
theorem decBs_enc : ∀ {l : List Bd}, wfB l → decBs (l.map Bd.enc) = some l
 | [], _ => rfl
 | x :: r, h => by simp only [List.map_cons, decBs, decBd_enc (h x (by simp)), decBs_enc (l := r) (fun y hy => h y (by simp [hy]))]
theorem decBs_some : ∀ {vs : List PVal} {l : List Bd}, decBs vs = some l → vs = l.map Bd.enc ∧ wfB l
 | [], l, h => by cases h; exact ⟨rfl, fun x hx => by cases hx⟩
 | v :: r, l, h => by
  unfold decBs at h
  split at h
  ·rename_i x m hx hm
   cases h
   obtain ⟨rfl, wx⟩ := decBd_some hx
   obtain ⟨rfl, wm⟩ := decBs_some hm
   refine ⟨rfl, fun y hy => ?_⟩
   rcases List.mem_cons.1 hy with rfl | hy
   ·exact wx
   ·exact wm y hy
  ·cases h
def lookB : List Bd → Int → Fr
 | [], _ => ofQ 0
 | b :: r, i => if b.id = i then b.x else lookB r i
theorem wf_lookB : ∀ {l : List Bd} {i : Int}, wfB l → (lookB l i).wf
 | [], _, _ => wf_ofQ 0
 | b :: r, i, h => by
  unfold lookB
  split
  ·exact h b (by simp)
  ·exact wf_lookB fun y hy => h y (by simp [hy])
theorem lookB_drop {i : Int} {l : List Bd} {k : Nat} {b : Bd} (hb : l[k]? = some b) : lookB (l.drop k) i = if b.id = i then b.x else lookB (l.drop (k + 1)) i := by
 have hi := (List.getElem?_eq_some_iff.1 hb).1
 rw [List.drop_eq_getElem_cons hi, getE hb]
 rfl
def sLook : List PVal → Option PVal
 | [.lst vs, .int .i64 i] => match decBs vs with | some l => some (lookB l i).enc | none => none
 | _ => none
theorem sLook_at {l : List Bd} {i : Int} (h : wfB l) : sLook [.lst (l.map Bd.enc), .int .i64 i] = some (lookB l i).enc := by simp only [sLook, decBs_enc h]
def Trlk : Tab := Tab.none.with 91 (pureS sQZero)
theorem Trlk_ok : TabOk Tryz.prog base Trlk := Tab.with_ok Tab.none_ok rzero_ok
theorem Trlk_mu (f : FuncId) (a : List AVal) (H : Heap) : Trlk.mu f a H = none := (rfl)
theorem Trlk_fns : Trlk.fn 91 = (pureS sQZero) := (rfl)
theorem rlook_ok : FnOk Tryz.prog base 25 (pureS sLook) := by
 refine pure_of_vc hmix Trlk_ok globNone low25 fun args z hs hf => ?_
 unfold sLook at hs
 split at hs
 case h_2 => cases hs
 rename_i vs n
 split at hs
 case h_2 => cases hs
 rename_i l hl
 obtain ⟨rfl, wl⟩ := decBs_some hl
 cases hs
 have hlen := (hf (.lst (l.map Bd.enc)) (by simp)).lst.1
 unfold maxLen at hlen
 simp only [List.length_map] at hlen
 refine ⟨by simp [lf25], ?_⟩
 have v2 := sQZero_nil
 obtain ⟨r, hr⟩ : ∃ r, r = lookB l n := ⟨_, rfl⟩
 rw [← hr]
 obtain ⟨z0, hz0⟩ : ∃ z0, z0 = ofQ 0 := ⟨_, rfl⟩
 rw [← hz0] at v2
 simp only [Fr.enc] at v2 ⊢
 simp [lf25]
 simp only [lf25_B0, vc_block]
 refine loop_ind (fun fr H => ∃ i : Nat, H = [⟨3, 0, false, [.agg [.p (.bool false), .tight [], .tight []]], 25⟩] ∧ i ≤ l.length ∧ r = lookB (l.drop i) n ∧ fr 0 = .p (.lst (l.map Bd.enc)) ∧ fr 1 = .p (.int .i64 n) ∧ fr 4 = .optr 0 0 0 0 ∧ fr 5 = .p (.int .i64 i)) (fun fr _ => l.length - ivar (fr 5))
  ⟨0, by simp, by omega, hr, by simp, by simp, by simp, by simp⟩ ?_
 rintro fr H ⟨i, rfl, hi, hri, f0, f1', f4', f5⟩
 by_cases h1 : i < l.length
 ·obtain ⟨b, hb⟩ : ∃ b, l[i]? = some b := ⟨_, List.getElem?_eq_getElem h1⟩
  have hbe := getE hb
  have hw := wrap_succ (i := i) (by omega)
  rw [lookB_drop hb] at hri
  by_cases ht : b.id = n
  ·rw [if_pos ht] at hri
   simp [f0, f1', f4', f5, h1, hbe, ht, hri, Bd.enc, Trlk_mu, Trlk_fns]
  ·rw [if_neg ht] at hri
   have ht2 : (b.id == n) = false := by simp [ht]
   simp [f0, f1', f4', f5, h1, hbe, ht2, hw, ivar, Bd.enc, Trlk_mu, Trlk_fns]
   exact ⟨⟨i + 1, by omega, hri, by omega⟩, by omega⟩
 ·have hil : i = l.length := by omega
  rw [hil, List.drop_length] at hri
  have : r = z0 := by rw [hri, hz0]; rfl
  rw [this]
  simp [f0, f1', f4', f5, h1, v2, Trlk_mu, Trlk_fns]
end Go.Proofs.YtepfpgnjpkcgmaaGreat

/-
 law8: the reference's values; what is told of ids.
-/
namespace Go.Proofs.YtepfpgnjpkcgmaaGreat
open Go Go.Abs Go.Limbs
variable {base : Prot}
set_option maxRecDepth 20000
attribute [local irreducible] vc
attribute [local simp] pureS touchV freezeL fuel shiftV u64 au
def sRVal : List PVal → Option PVal
 | [a, .lst vs] => match decPo a, decBs vs with | some p, some l => if p.few = true then some (pairF (valuePo (lookB l) p)) else none | _, _ => none
 | _ => none
theorem sRVal_at {p : Po} {l : List Bd} (wp : p.wf) (fp : p.few = true) (wl : wfB l) : sRVal [p.enc, .lst (l.map Bd.enc)] = some (pairF (valuePo (lookB l) p)) := by simp only [sRVal, decPo_enc wp, decBs_enc wl, fp, if_true]
def Trva : Tab := ((((Tab.none.with 31 (pureS (g1 okPo))).with 25 (pureS sLook)).with 50 (pureS (f1 boolF))).with 92 (pureS (f2 mulP))).with 99 (pureS (f2 addP))
theorem Trva_ok : TabOk Tryz.prog base Trva := Tab.with_ok (Tab.with_ok (Tab.with_ok (Tab.with_ok (Tab.with_ok Tab.none_ok rpvalid_ok) rlook_ok) rvalidR_ok) rMul_ok) rAdd_ok
theorem Trva_mu (f : FuncId) (a : List AVal) (H : Heap) : Trva.mu f a H = none := (rfl)
theorem Trva_fns : Trva.fn 31 = (pureS (g1 okPo)) ∧ Trva.fn 25 = (pureS sLook) ∧ Trva.fn 50 = (pureS (f1 boolF)) ∧ Trva.fn 92 = (pureS (f2 mulP)) ∧ Trva.fn 99 = (pureS (f2 addP)) := ⟨rfl, rfl, rfl, rfl, rfl⟩
set_option maxHeartbeats 1000000 in
theorem rvalue_ok : FnOk Tryz.prog base 27 (pureS sRVal) := by
 refine pure_of_vc hmix Trva_ok globNone low27 fun args z hs hf => ?_
 unfold sRVal at hs
 split at hs
 case h_2 => cases hs
 rename_i a vs
 split at hs
 case h_2 => cases hs
 rename_i p l hpd hl
 obtain ⟨rfl, wp⟩ := decPo_some hpd
 obtain ⟨rfl, wl⟩ := decBs_some hl
 split at hs
 case isFalse => cases hs
 rename_i fp
 cases hs
 refine ⟨by simp [lf27], ?_⟩
 have hlen := few_le fp
 have v1 : g1 okPo [p.enc] = some (.bool p.ok) := g1_at wp
 unfold pairF valuePo
 cases hp : p.ok with
 | false =>
  rw [hp] at v1
  simp only [Po.enc, Fr.enc] at v1 ⊢
  simp [lf27, v1, fillS, zF, Trva_mu, Trva_fns]
 | true =>
 rw [hp] at v1
 simp only [Bool.true_and]
 obtain ⟨lk, hlk⟩ : ∃ lk, lk = lookB l := ⟨_, rfl⟩
 have wk : ∀ i, (lk i).wf := fun i => by rw [hlk]; exact wf_lookB wl
 have vl : ∀ i, sLook [.lst (l.map Bd.enc), .int .i64 i] = some (lk i).enc := fun i => by rw [hlk]; exact sLook_at wl
 rw [← hlk]
 obtain ⟨r, hr⟩ : ∃ r, r = (if (p.ps.all fun x => (lk x.t).ok) = true then sumF lk p.ps p.c else (zF, 1)) := ⟨_, rfl⟩
 rw [← hr]
 simp only [Po.enc, Fr.enc] at v1 ⊢
 simp [lf27, v1, fillS, Trva_mu, Trva_fns]
 simp only [lf27_B0, vc_block]
 refine loop_ind (fun fr H => ∃ i : Nat, H = [⟨4, 0, false, [.p p.enc], 27⟩, ⟨3, 0, false, [.agg [.p (.bool false), .tight [], .tight []]], 25⟩] ∧
   i ≤ p.ps.length ∧ (∀ x ∈ p.ps.take i, (lk x.t).ok = true) ∧ fr 1 = .p (.lst (l.map Bd.enc)) ∧ fr 2 = .optr 0 0 0 0 ∧ fr 4 = .optr 1 0 0 0 ∧ fr 6 = .p (.int .i64 i)) (fun fr _ => p.ps.length - ivar (fr 6))
  ⟨0, by simp [Po.enc, Fr.enc], by omega, by simp, by simp, by simp, by simp, by simp⟩ ?_
 rintro fr H ⟨i, rfl, hi, hok, f1', f2', f4', f6⟩
 by_cases h1 : i < p.ps.length
 ·obtain ⟨y, hy⟩ : ∃ y, p.ps[i]? = some y := ⟨_, List.getElem?_eq_getElem h1⟩
  have hye := getE hy
  have hv := vF (wk y.t)
  have hw := wrap_succ (i := i) (by omega)
  have htk := take_succ_get hy
  have vy := vl y.t
  obtain ⟨d, hd⟩ : ∃ d, d = lk y.t := ⟨_, rfl⟩
  rw [← hd] at hv vy
  cases hdo : d.ok with
  | false =>
   rw [hdo] at hv
   have : (p.ps.all fun x => (lk x.t).ok) = false := by
    cases h : p.ps.all fun x => (lk x.t).ok with
    | false => rfl
    | true =>
     have := List.all_eq_true.1 h y (List.mem_of_getElem? hy)
     rw [← hd, hdo] at this
     cases this
   rw [this] at hr
   simp only [Fr.enc] at hv vy
   simp [f1', f2', f4', f6, h1, hye, Pa.enc, Po.enc, Fr.enc, hv, vy, hr, zF, Trva_mu, Trva_fns]
  | true =>
   rw [hdo] at hv
   simp only [Fr.enc] at hv vy
   simp [f1', f2', f4', f6, h1, hye, Pa.enc, Po.enc, Fr.enc, hv, vy, hw, ivar, Trva_mu, Trva_fns]
   exact ⟨⟨i + 1, by omega, fun x hx => by
    rw [htk] at hx
    rcases List.mem_append.1 hx with hx | hx
    ·exact hok x hx
    ·rw [List.mem_singleton] at hx; subst hx; rw [← hd]; exact hdo, by omega⟩, by omega⟩
 ·have hil : i = p.ps.length := by omega
  rw [hil, List.take_length] at hok
  have hall : (p.ps.all fun x => (lk x.t).ok) = true := List.all_eq_true.2 hok
  rw [hall, if_pos rfl] at hr
  simp [f1', f2', f4', f6, h1, Po.enc, Fr.enc, fillS, Trva_mu, Trva_fns]
  simp only [lf27_B1, vc_block]
  refine loop_ind (fun fr H => ∃ (i : Nat) (s : Fr) (ex : Heap), H = ⟨4, 0, false, [.p p.enc], 27⟩ :: ⟨3, 0, false, [.agg [.p (.bool false), .tight [], .tight []]], 25⟩ :: ⟨3, 0, false, [.p s.enc], 25⟩ :: ex ∧
   i ≤ p.ps.length ∧ s.wf ∧ s.ok = true ∧ r = sumF lk (p.ps.drop i) s ∧
   fr 1 = .p (.lst (l.map Bd.enc)) ∧ fr 2 = .optr 0 0 0 0 ∧ fr 4 = .optr 1 0 0 0 ∧ fr 7 = .optr 2 0 0 0 ∧ fr 8 = .p (.int .i64 i)) (fun fr _ => p.ps.length - ivar (fr 8))
   ⟨0, p.c, [], by simp [Po.enc, Fr.enc], by omega, wp.2, ok_const hp, hr, by simp [f1'], by simp [f2'], by simp [f4'], by simp, by simp⟩ ?_
  clear f1' f2' f4' f6
  rintro fr H ⟨i, s, ex, rfl, hi, ws, os, hrs, f1', f2', f4', f7, f8⟩
  by_cases h1 : i < p.ps.length
  ·obtain ⟨y, hy⟩ : ∃ y, p.ps[i]? = some y := ⟨_, List.getElem?_eq_getElem h1⟩
   have hye := getE hy
   have wy : y.c.wf := wp.1 y (List.mem_of_getElem? hy)
   have oy := ok_part hp (List.mem_of_getElem? hy)
   have ok2 : (lk y.t).ok = true := hok y (List.mem_of_getElem? hy)
   have hw := wrap_succ (i := i) (by omega)
   have m1 := mulP_at wy (wk y.t)
   have vy := vl y.t
   rw [sumF_drop hy] at hrs
   obtain ⟨e, he0⟩ : ∃ e, e = lk y.t := ⟨_, rfl⟩
   rw [← he0] at m1 ok2 hrs vy
   rcases mulF_err oy ok2 with he | he
   case inr =>
    rw [he] at m1 hrs
    simp only [show ¬ (4 = 0) by decide, if_false] at hrs
    simp only [Fr.enc, zF] at m1 vy
    simp [f1', f2', f4', f7, f8, h1, hye, Pa.enc, Po.enc, Fr.enc, Trva_mu, Trva_fns]
    rw [vc_regionW]
    refine ⟨[], ?_⟩
    simp [f1', f2', f4', f7, f8, h1, hye, vy, m1, hrs, zF, Pa.enc, Po.enc, Fr.enc, getA, getA0, setA, setA0, Trva_mu, Trva_fns]
    exact snoc3
   obtain ⟨d, hd⟩ : ∃ d, d = (mulF y.c e).1 := ⟨_, rfl⟩
   have wd : d.wf := by rw [hd]; exact wf_mulF _ _
   have od : d.ok = true := by rw [hd]; exact ok_mulF he
   rw [he, ← hd] at m1
   rw [he, ← hd, if_pos rfl] at hrs
   have m2 := addP_at ws wd
   rcases addF_err os od with he2 | he2
   case inr =>
    rw [he2] at m2 hrs
    simp only [show ¬ (4 = 0) by decide, if_false] at hrs
    simp only [Fr.enc, zF] at m1 m2 vy
    simp [f1', f2', f4', f7, f8, h1, hye, Pa.enc, Po.enc, Fr.enc, Trva_mu, Trva_fns]
    rw [vc_regionW]
    refine ⟨[], ?_⟩
    simp [f1', f2', f4', f7, f8, h1, hye, vy, m1, m2, hrs, zF, Pa.enc, Po.enc, Fr.enc, getA, getA0, setA, setA0, Trva_mu, Trva_fns]
    exact snoc3
   obtain ⟨u, hu⟩ : ∃ u, u = (addF s d).1 := ⟨_, rfl⟩
   have wu : u.wf := by rw [hu]; exact wf_addF _ _
   have ou : u.ok = true := by rw [hu]; exact ok_addF he2
   rw [he2, ← hu] at m2
   rw [he2, ← hu, if_pos rfl] at hrs
   simp only [Fr.enc] at m1 m2 vy
   simp [f1', f2', f4', f7, f8, h1, hye, Pa.enc, Po.enc, Fr.enc, Trva_mu, Trva_fns]
   rw [vc_regionW]
   refine ⟨[], ?_⟩
   simp [f1', f2', f4', f7, f8, h1, hye, vy, m1, m2, hw, ivar, zF, Pa.enc, Po.enc, Fr.enc, getA, getA0, setA, setA0, Trva_mu, Trva_fns]
   exact ⟨snoc3, ⟨i + 1, u, ⟨rfl, rfl, rfl⟩, by omega, wu, ou, hrs, by omega⟩, by omega⟩
  ·have hil : i = p.ps.length := by omega
   rw [hil, List.drop_length] at hrs
   simp only [sumF] at hrs
   simp [f2', f4', f7, f8, h1, hrs, Po.enc, Fr.enc]
end Go.Proofs.YtepfpgnjpkcgmaaGreat
