/-
  What the reference's functions of sums compute, for at most a million parts.
-/
import Derived.Test.YtcfklmjgofknjaaGreatLinD
import Derived.Test.YtcfklmjgofknjaaGreatRatM
set_option linter.unusedSimpArgs false
set_option linter.unnecessarySimpa false
set_option linter.unusedVariables false
set_option linter.constructorNameAsVariable false

/-
 The reference's sums: what is one, a term's number, without a term, the same.
-/
namespace Go.Proofs.YtcfklmjgofknjaaGreat
open Go Go.Abs Go.Limbs
variable {base : Prot}
set_option maxRecDepth 20000
attribute [local irreducible] vc
attribute [local simp] pureS touchV freezeL fuel shiftV u64 au
def Trz : Tab := ((Tab.none.with 31 (pureS sQOf)).with 37 (pureS (f1 boolF))).with 63 (pureS (f2 sameP))
theorem Trz_ok : TabOk Tryz.prog base Trz := Tab.with_ok (Tab.with_ok (Tab.with_ok Tab.none_ok rofR_ok) rvalidR_ok) rsame_ok
theorem Trz_mu (f : FuncId) (a : List AVal) (H : Heap) : Trz.mu f a H = none := (rfl)
theorem Trz_fns : Trz.fn 31 = (pureS sQOf) ∧ Trz.fn 37 = (pureS (f1 boolF)) ∧ Trz.fn 63 = (pureS (f2 sameP)) := ⟨rfl, rfl, rfl⟩
theorem z1_eq : Rat.divInt 0 1 = 0 := by decide +kernel
theorem rzero_ok : FnOk Tryz.prog base 67 (pureS sQZero) := by
 refine pure_of_vc hmix Trz_ok globNone low67 fun args z hs hf => ?_
 unfold sQZero at hs
 split at hs
 case h_2 => cases hs
 cases hs
 refine ⟨by simp [lf67], ?_⟩
 have o1 := ofR (n := 0) (d := 1) (by decide)
 rw [z1_eq] at o1
 obtain ⟨x, hx⟩ : ∃ x, x = ofQ 0 := ⟨_, rfl⟩
 rw [← hx] at o1 ⊢
 simp only [Fr.enc] at o1 ⊢
 simp [lf67, o1, Trz_mu, Trz_fns]
theorem rpvalid_ok : FnOk Tryz.prog base 62 (pureS (g1 okPo)) := by
 refine pure_of_vc hmix Trz_ok globNone low62 fun args z hs hf => ?_
 obtain ⟨p, wp, rfl, rfl⟩ := g1_some hs
 refine ⟨by simp [lf62], ?_⟩
 unfold okPo
 have hlen := len_ps (hf _ (List.mem_singleton.2 rfl))
 have hc : f1 boolF [p.c.enc] = some (.bool p.c.ok) := vF wp.2
 simp only [Po.enc, Fr.enc] at hc ⊢
 simp [lf62, fillS]
 simp only [lf62_B0, vc_block]
 refine loop_ind (fun fr H => ∃ (i : Nat) (ex : Heap), H = ⟨4, 0, false, [.p p.enc], 27⟩ :: ex ∧ i ≤ p.ps.length ∧ okParts (-1) p.ps = okParts (lastT p.ps i) (p.ps.drop i) ∧ fr 1 = .optr 0 0 0 0 ∧ fr 3 = .p (.int .i64 (lastT p.ps i)) ∧ fr 4 = .p (.int .i64 i)) (fun fr _ => p.ps.length - ivar (fr 4))
  ⟨0, [], by simp [Po.enc, Fr.enc], by omega, rfl, by simp, by simp [lastT], by simp⟩ ?_
 rintro fr H ⟨i, ex, rfl, hi, hok, f1', f3, f4⟩
 by_cases h1 : i < p.ps.length
 ·obtain ⟨x, hx⟩ : ∃ x, p.ps[i]? = some x := ⟨_, List.getElem?_eq_getElem h1⟩
  have wx : x.c.wf := wp.1 x (List.mem_of_getElem? hx)
  have hv : f1 boolF [x.c.enc] = some (.bool x.c.ok) := vF wx
  simp only [Fr.enc] at hv
  have hxe := getE hx
  have hw := wrap_succ (i := i) (by omega)
  rw [okParts_at hx] at hok
  have hlx : lastT p.ps (i + 1) = x.t := by simp only [lastT, hx]
  have bad : (decide (lastT p.ps i < x.t) && x.c.ok && !decide (x.c.n = [])) = false → p.ok = false := fun h => by
   unfold Po.ok
   rw [hok, h]
   rfl
  by_cases ha : x.t ≤ lastT p.ps i
  ·rw [bad (by rw [decide_eq_false (show ¬ lastT p.ps i < x.t by omega)]; rfl)]
   simp [f1', f3, f4, h1, hxe, Pa.enc, Po.enc, Fr.enc, ha, binS, getA, getA0, setA, setA0, Trz_mu, Trz_fns]
  ·cases hvk : x.c.ok with
   | false =>
    rw [hvk] at hv
    rw [bad (by rw [hvk]; simp)]
    simp [f1', f3, f4, h1, hxe, Pa.enc, Po.enc, Fr.enc, ha, hv, binS, getA, getA0, setA, setA0, Trz_mu, Trz_fns]
   | true =>
    rw [hvk] at hv
    by_cases hn : x.c.n = []
    ·rw [bad (by rw [decide_eq_true hn]; simp)]
     rw [hn] at hv
     simp only [List.map_nil] at hv
     simp [f1', f3, f4, h1, hxe, Pa.enc, Po.enc, Fr.enc, ha, hv, hn, binS, getA, getA0, setA, setA0, Trz_mu, Trz_fns]
    ·have hn0 : ((x.c.n.length : Int) == 0) = false := by
      have := List.length_pos_iff.2 hn
      simp; exact hn
     have hg : okParts (-1) p.ps = okParts (lastT p.ps (i + 1)) (p.ps.drop (i + 1)) := by rw [hok, decide_eq_true (show lastT p.ps i < x.t by omega), hvk, decide_eq_false hn]; rfl
     simp [f1', f3, f4, h1, hxe, Pa.enc, Po.enc, Fr.enc, ha, hv, hn, hn0, hw, binS, ivar, getA, getA0, setA, setA0, Trz_mu, Trz_fns]
     exact ⟨⟨i + 1, by omega, hg, hlx.symm, by omega⟩, by omega⟩
 ·have hil : i = p.ps.length := by omega
  rw [hil, List.drop_length] at hok
  have : p.ok = p.c.ok := by unfold Po.ok; rw [hok]; rfl
  rw [this]
  simp [f1', f4, h1, Po.enc, Fr.enc, hc, Trz_mu, Trz_fns]
def Trco : Tab := (Tab.none.with 62 (pureS (g1 okPo))).with 67 (pureS sQZero)
theorem Trco_ok : TabOk Tryz.prog base Trco := Tab.with_ok (Tab.with_ok Tab.none_ok rpvalid_ok) rzero_ok
theorem Trco_mu (f : FuncId) (a : List AVal) (H : Heap) : Trco.mu f a H = none := (rfl)
theorem Trco_fns : Trco.fn 62 = (pureS (g1 okPo)) ∧ Trco.fn 67 = (pureS sQZero) := ⟨rfl, rfl⟩
theorem findF_drop {t : Int} {l : List Pa} {i : Nat} {x : Pa} (hx : l[i]? = some x) : findF t (l.drop i) = if x.t = t then some x.c else findF t (l.drop (i + 1)) := by
 have hi := (List.getElem?_eq_some_iff.1 hx).1
 rw [List.drop_eq_getElem_cons hi, getE hx]
 rfl
theorem rcoef_ok : FnOk Tryz.prog base 29 (pureS (gi coefP)) := by
 refine pure_of_vc hmix Trco_ok globNone low29 fun args z hs hf => ?_
 obtain ⟨p, t, wp, rfl, rfl⟩ := gi_some hs
 refine ⟨by simp [lf29], ?_⟩
 have hlen := len_ps (hf p.enc (by simp))
 have v1 : g1 okPo [p.enc] = some (.bool p.ok) := g1_at wp
 have v2 := sQZero_nil
 unfold coefP
 have hc1 : ∀ c, findF t p.ps = some c → coefPo p t = if p.ok then c else ofQ 0 := fun c h => by unfold coefPo; rw [h]
 have hc2 : findF t p.ps = none → coefPo p t = ofQ 0 := fun h => by unfold coefPo; rw [h]
 have hc3 : p.ok = false → coefPo p t = ofQ 0 := fun h => by unfold coefPo; rw [h]; cases findF t p.ps <;> rfl
 obtain ⟨r, hr⟩ : ∃ r, r = coefPo p t := ⟨_, rfl⟩
 rw [← hr] at hc1 hc2 hc3 ⊢
 obtain ⟨z0, hz0⟩ : ∃ z0, z0 = ofQ 0 := ⟨_, rfl⟩
 rw [← hz0] at v2 hc1 hc2 hc3
 simp only [Po.enc, Fr.enc] at v1 v2 ⊢
 simp [lf29, fillS]
 simp only [lf29_B0, vc_block]
 refine loop_ind (fun fr H => ∃ i : Nat, H = [⟨4, 0, false, [.p p.enc], 27⟩, ⟨3, 0, false, [.agg [.p (.bool false), .tight [], .tight []]], 25⟩] ∧ i ≤ p.ps.length ∧ findF t p.ps = findF t (p.ps.drop i) ∧ fr 1 = .p (.int .i64 t) ∧ fr 2 = .optr 0 0 0 0 ∧ fr 4 = .optr 1 0 0 0 ∧ fr 5 = .p (.int .i64 i)) (fun fr _ => p.ps.length - ivar (fr 5))
  ⟨0, by simp [Po.enc, Fr.enc], by omega, rfl, by simp, by simp, by simp, by simp⟩ ?_
 rintro fr H ⟨i, rfl, hi, hfi, f1', f2', f4', f5⟩
 by_cases h1 : i < p.ps.length
 ·obtain ⟨x, hx⟩ : ∃ x, p.ps[i]? = some x := ⟨_, List.getElem?_eq_getElem h1⟩
  have hxe := getE hx
  have hw := wrap_succ (i := i) (by omega)
  rw [findF_drop hx] at hfi
  cases hok : p.ok with
  | false =>
   rw [hok] at v1
   have : r = z0 := hc3 hok
   rw [this]
   simp [f1', f2', f4', f5, h1, Po.enc, Fr.enc, v1, v2, Trco_mu, Trco_fns]
  | true =>
   rw [hok] at v1
   by_cases ht : x.t = t
   ·rw [if_pos ht] at hfi
    have : r = x.c := by rw [hc1 _ hfi, hok]; rfl
    rw [this]
    simp [f1', f2', f4', f5, h1, hxe, ht, Pa.enc, Po.enc, Fr.enc, v1, Trco_mu, Trco_fns]
   ·rw [if_neg ht] at hfi
    have ht2 : (x.t == t) = false := by simp [ht]
    simp [f1', f2', f4', f5, h1, hxe, ht2, hw, ivar, Pa.enc, Po.enc, Fr.enc, v1, Trco_mu, Trco_fns]
    exact ⟨⟨i + 1, by omega, hfi, by omega⟩, by omega⟩
 ·have hil : i = p.ps.length := by omega
  rw [hil, List.drop_length] at hfi
  have : r = z0 := hc2 hfi
  rw [this]
  simp [f1', f2', f4', f5, h1, Po.enc, Fr.enc, v2, Trco_mu, Trco_fns]
theorem rpsame_ok : FnOk Tryz.prog base 74 (pureS (g2 samePo)) := by
 refine pure_of_vc hmix Trz_ok globNone low74 fun args z hs hf => ?_
 obtain ⟨p, q, wp, wq, rfl, rfl⟩ := g2_some hs
 refine ⟨by simp [lf74], ?_⟩
 have hlen := len_ps (hf p.enc (by simp))
 have v1 : f2 sameP [p.c.enc, q.c.enc] = some (.bool (decide (p.c = q.c))) := by rw [f2_at wp.2 wq.2]; unfold sameP; rw [sameF_iff]
 unfold samePo
 by_cases hlm : p.ps.length = q.ps.length
 ·have hl1 : ((p.ps.length : Int) != q.ps.length) = false := by simp [hlm]
  by_cases hcc : p.c = q.c
  ·rw [decide_eq_true hcc] at v1
   simp only [Po.enc, Fr.enc] at v1 ⊢
   simp [lf74, hl1, v1, Trz_mu, Trz_fns]
   simp only [lf74_B0, vc_block]
   refine loop_ind (fun fr H => ∃ i : Nat, H = [⟨4, 0, false, [.p p.enc], 27⟩, ⟨4, 0, false, [.p q.enc], 27⟩] ∧ i ≤ p.ps.length ∧ fr 2 = .optr 0 0 0 0 ∧ fr 3 = .optr 1 0 0 0 ∧ fr 5 = .p (.int .i64 i) ∧ p.ps.take i = q.ps.take i) (fun fr _ => p.ps.length - ivar (fr 5))
    ⟨0, by simp [Po.enc, Fr.enc], by omega, by simp, by simp, by simp, by simp⟩ ?_
   rintro fr H ⟨i, rfl, hi, f2', f3, f5, hj⟩
   by_cases h1 : i < p.ps.length
   ·obtain ⟨x, hx⟩ : ∃ x, p.ps[i]? = some x := ⟨_, List.getElem?_eq_getElem h1⟩
    have him : i < q.ps.length := by omega
    obtain ⟨y, hy⟩ : ∃ y, q.ps[i]? = some y := ⟨_, List.getElem?_eq_getElem him⟩
    have hxe := getE hx
    have hye := getE hy
    have hw := wrap_succ (i := i) (by omega)
    have hv : f2 sameP [x.c.enc, y.c.enc] = some (.bool (decide (x.c = y.c))) := by rw [f2_at (wp.1 x (List.mem_of_getElem? hx)) (wq.1 y (List.mem_of_getElem? hy))]; unfold sameP; rw [sameF_iff]
    have hne : ¬ x = y → decide (p = q) = false := fun h => decide_eq_false (by
     rintro rfl
     rw [hx] at hy
     exact h (by cases hy; rfl))
    by_cases ht : x.t = y.t
    ·have ht2 : (x.t != y.t) = false := by simp [ht]
     by_cases hc : x.c = y.c
     ·rw [decide_eq_true hc] at hv
      have hxy : x = y := pa_eq.2 ⟨hc, ht⟩
      have hj' : p.ps.take (i + 1) = q.ps.take (i + 1) := by rw [List.take_add_one, List.take_add_one, hj, hx, hy, hxy]
      simp only [Fr.enc] at hv
      simp [f2', f3, f5, h1, him, hxe, hye, ht, ht2, hw, ivar, Pa.enc, Po.enc, Fr.enc, hv, Trz_mu, Trz_fns]
      exact ⟨⟨i + 1, by omega, by omega, hj'⟩, by omega⟩
     ·rw [decide_eq_false hc] at hv
      rw [hne (fun h => hc (by rw [h]))]
      simp only [Fr.enc] at hv
      simp [f2', f3, f5, h1, him, hxe, hye, ht, ht2, Pa.enc, Po.enc, Fr.enc, hv, Trz_mu, Trz_fns]
    ·have ht2 : (x.t != y.t) = true := by simp [ht]
     rw [hne (fun h => ht (by rw [h]))]
     simp [f2', f3, f5, h1, him, hxe, hye, ht, ht2, Pa.enc, Po.enc, Fr.enc, Trz_mu, Trz_fns]
   ·have hil : i = p.ps.length := by omega
    subst hil
    have hxy : p = q := by
     rw [List.take_of_length_le (Nat.le_refl _), List.take_of_length_le (by omega)] at hj
     exact po_eq.2 ⟨hj, hcc⟩
    rw [decide_eq_true hxy]
    simp [f2', f5, Po.enc, Fr.enc]
  ·rw [decide_eq_false hcc] at v1
   rw [decide_eq_false (fun h => hcc (by rw [h]))]
   simp only [Po.enc, Fr.enc] at v1 ⊢
   simp [lf74, hl1, v1, Trz_mu, Trz_fns]
 ·have hl1 : ((p.ps.length : Int) != q.ps.length) = true := by simp; omega
  rw [decide_eq_false (fun h => hlm (by rw [h]))]
  simp only [Po.enc, Fr.enc]
  simp [lf74, hl1, Trz_mu, Trz_fns]
end Go.Proofs.YtcfklmjgofknjaaGreat

/-
 The reference's sums: without a term, multiples.
-/
namespace Go.Proofs.YtcfklmjgofknjaaGreat
open Go Go.Abs Go.Limbs
variable {base : Prot}
set_option maxRecDepth 20000
attribute [local irreducible] vc
attribute [local simp] pureS touchV freezeL fuel shiftV u64 au
theorem mulF_zero {x k : Fr} (hx : x.ok = true) (hk : k.ok = true) (h0 : k.n = []) : mulF x k = (ofQ 0, 0) := by
 obtain ⟨q, hq, rfl⟩ := Fr.ok_of hk
 have h1 : q = 0 := by
  have : limbs q.num.natAbs = [] := h0
  rw [limbs_eq_nil, Int.natAbs_eq_zero, Rat.num_eq_zero] at this
  exact this
 subst h1
 unfold mulF
 rw [hx, hk, q_ofQ, Rat.mul_zero]
 exact heldQ_ok Sm0
def Trsc : Tab := (((Tab.none.with 62 (pureS (g1 okPo))).with 67 (pureS sQZero)).with 37 (pureS (f1 boolF))).with 98 (pureS (f2 mulP))
theorem Trsc_ok : TabOk Tryz.prog base Trsc := Tab.with_ok (Tab.with_ok (Tab.with_ok (Tab.with_ok Tab.none_ok rpvalid_ok) rzero_ok) rvalidR_ok) rMul_ok
theorem Trsc_mu (f : FuncId) (a : List AVal) (H : Heap) : Trsc.mu f a H = none := (rfl)
theorem Trsc_fns : Trsc.fn 62 = (pureS (g1 okPo)) ∧ Trsc.fn 67 = (pureS sQZero) ∧ Trsc.fn 37 = (pureS (f1 boolF)) ∧ Trsc.fn 98 = (pureS (f2 mulP)) := ⟨rfl, rfl, rfl, rfl⟩
theorem rscale_ok : FnOk Tryz.prog base 52 (pureS (gks scaleP)) := by
 refine pure_of_vc hmix Trsc_ok globNone low52 fun args z hs hf => ?_
 obtain ⟨p, k, wp, wk, fp, rfl, rfl⟩ := gks_some hs
 refine ⟨by simp [lf52], ?_⟩
 have hlen := few_le fp
 have v1 : g1 okPo [p.enc] = some (.bool p.ok) := g1_at wp
 have v2 := vF wk
 have v3 := mulP_at wp.2 wk
 have v4 := sQZero_nil
 have hm := maxLen_ge
 unfold scaleP pairPo scalePo
 cases hp : p.ok with
 | false =>
  rw [hp] at v1
  simp only [Po.enc, Fr.enc] at v1 ⊢
  simp [lf52, v1, fillS, Trsc_mu, Trsc_fns, zPo, zF]
 | true =>
 rw [hp] at v1
 cases hk : k.ok with
 | false =>
  rw [hk] at v2
  simp only [Po.enc, Fr.enc] at v1 v2 ⊢
  simp [lf52, v1, v2, fillS, Trsc_mu, Trsc_fns, zPo, zF]
 | true =>
 rw [hk] at v2
 by_cases hk0 : k.n = []
 ·rw [mulF_zero (ok_const hp) hk hk0]
  simp only [Bool.and_self, if_true, if_pos hk0]
  obtain ⟨z0, hz0⟩ : ∃ z0, z0 = ofQ 0 := ⟨_, rfl⟩
  rw [← hz0] at v4 ⊢
  have v2' := v2
  simp only [Po.enc, Fr.enc, hk0, List.map_nil] at v1 v2' v4 ⊢
  simp [lf52, v1, v2', v4, fillS, Trsc_mu, Trsc_fns]
 have hkn : ((k.n.length : Int) == 0) = false := by simp [hk0]
 obtain ⟨r, hr⟩ : ∃ r, r = (if (mulF p.c k).2 = 0 then withC (mulF p.c k).1 (scaleF k p.ps) else (zPo, 4)) := ⟨_, rfl⟩
 simp only [Bool.and_self, if_true, if_neg hk0]
 rw [← hr]
 simp only [Po.enc, Fr.enc] at v1 v2 v3 ⊢
 simp [lf52, v1, v2, hkn, hk0, fillS, Trsc_mu, Trsc_fns]
 simp only [lf52_B0, vc_block]
 refine loop_ind (fun fr H => ∃ (i : Nat) (es : List Pa) (x : AVal) (ex : Heap), H = ⟨4, 0, false, [.p p.enc], 27⟩ :: ⟨3, 0, false, [.p k.enc], 25⟩ :: ⟨4, 0, false, [.agg [.tight [], .p (.bool false), .tight [], .tight []]], 27⟩ :: ⟨4, 0, false, [.agg [x, .p (.bool false), .tight [], .tight []]], 27⟩ :: ex ∧
   i ≤ p.ps.length ∧ es.length = i ∧ Grown 4 4 70 (es.map Pa.enc) x ex ∧ scaleF k p.ps = (scaleF k (p.ps.drop i)).map (es ++ ·) ∧
   fr 2 = .optr 0 0 0 0 ∧ fr 3 = .optr 1 0 0 0 ∧ fr 4 = .optr 2 0 0 0 ∧ fr 6 = .optr 3 0 0 0 ∧ fr 7 = .p (.int .i64 i)) (fun fr _ => p.ps.length - ivar (fr 7))
  ⟨0, [], .tight [], [], by simp [Po.enc, Fr.enc], by omega, rfl, .nil _ _ _ _, by simp, by simp, by simp, by simp, by simp, by simp⟩ ?_
 rintro fr H ⟨i, es, x, ex, rfl, hi, hes, hg, hsc, f2', f3, f4, f6, f7⟩
 by_cases h1 : i < p.ps.length
 ·obtain ⟨y, hy⟩ : ∃ y, p.ps[i]? = some y := ⟨_, List.getElem?_eq_getElem h1⟩
  have wy : y.c.wf := wp.1 y (List.mem_of_getElem? hy)
  have hye := getE hy
  have hmu := mulP_at wy wk
  rw [scaleF_drop hy] at hsc
  have hw := wrap_succ (i := i) (by omega)
  rcases mulF_err (ok_part hp (List.mem_of_getElem? hy)) hk with he | he
  case inr =>
   rw [he] at hmu hsc
   simp only [show ¬ (4 = 0) by decide, if_false, Option.map_none] at hsc
   rw [hsc] at hr
   have hr2 : r = (zPo, 4) := by rw [hr]; split <;> rfl
   simp only [Fr.enc, zF] at hmu
   rcases hg.form with rfl | ⟨kk, nn, vv, rfl⟩
   all_goals
    simp [f2', f3, f4, f6, f7, h1, hye, Pa.enc, Po.enc, Fr.enc, Trsc_mu, Trsc_fns]
    rw [vc_regionW]
    refine ⟨[], ?_⟩
    simp [f2', f3, f4, f6, f7, h1, hye, hmu, hr2, zPo, zF, Pa.enc, Po.enc, Fr.enc, getA, getA0, setA, setA0, Trsc_mu, Trsc_fns]
    exact snoc4
  obtain ⟨d, hd⟩ : ∃ d, d = (mulF y.c k).1 := ⟨_, rfl⟩
  rw [he, ← hd] at hmu
  rw [he, ← hd, if_pos rfl] at hsc
  obtain ⟨k', v', ex', happ, hg'⟩ := (hg.more [⟨3, 0, false, [.p d.enc], 25⟩, ⟨4, 0, false, [.p (.agg [.bool d.s, .lst (d.n.map u64), .lst (d.d.map u64), .int .i64 y.t])], 70⟩]).app
   (pre := [⟨4, 0, false, [.p p.enc], 27⟩, ⟨3, 0, false, [.p k.enc], 25⟩, ⟨4, 0, false, [.agg [.tight [], .p (.bool false), .tight [], .tight []]], 27⟩, ⟨4, 0, false, [.agg [x, .p (.bool false), .tight [], .tight []]], 27⟩]) rfl (y := (⟨d, y.t⟩ : Pa).enc) rfl rfl (by omega) (bytes := 64) (by simp; omega) (by simp; omega)
  simp only [Fr.enc] at hmu
  simp only [Po.enc, Fr.enc, Pa.enc, List.cons_append, List.nil_append] at happ
  rcases hg.form with rfl | ⟨kk, nn, vv, rfl⟩
  all_goals
   simp [f2', f3, f4, f6, f7, h1, hye, Pa.enc, Po.enc, Fr.enc, Trsc_mu, Trsc_fns]
   rw [vc_regionW]
   refine ⟨[], ?_⟩
   simp [f2', f3, f4, f6, f7, h1, hye, hmu, Pa.enc, Po.enc, Fr.enc, getA, getA0, setA, setA0, Trsc_mu, Trsc_fns]
   refine ⟨snoc4, ?_⟩
   rw [vc_regionW]
   refine ⟨[], ?_⟩
   simp [f2', f3, f4, f6, f7, h1, hye, hw, ivar, fillS, -appV, happ, Pa.enc, Po.enc, Fr.enc, getA, getA0, setA, setA0, Trsc_mu, Trsc_fns]
   exact ⟨snoc4', ⟨i + 1, es ++ [⟨d, y.t⟩], _, _, ⟨rfl, rfl⟩, by omega, by simp [hes], by simpa [Pa.enc] using hg', by rw [hsc, Option.map_map]; congr 1; funext m; simp, by omega⟩, by omega⟩
 ·have hil : i = p.ps.length := by omega
  rw [hil, List.drop_length] at hsc
  simp only [scaleF, Option.map_some, List.append_nil] at hsc
  rw [hsc] at hr
  rcases mulF_err (ok_const hp) hk with he | he
  case inr =>
   rw [he] at v3 hr
   simp only [show ¬ (4 = 0) by decide, if_false] at hr
   simp only [Fr.enc, zF] at v3
   rcases hg.form with rfl | ⟨kk, nn, vv, rfl⟩
   all_goals
    simp [f2', f3, f4, f6, f7, h1, v3, hr, zPo, zF, Po.enc, Fr.enc, getA, getA0, setA, setA0, Trsc_mu, Trsc_fns]
  obtain ⟨d, hd⟩ : ∃ d, d = (mulF p.c k).1 := ⟨_, rfl⟩
  rw [← hd] at v3 hr
  rw [he] at v3 hr
  rw [if_pos rfl] at hr
  simp only [withC] at hr
  rcases hg with ⟨hne, rfl⟩ | ⟨j, v, rfl, hj⟩
  ·have : es = [] := by simpa using hne
   subst this
   simp [f2', f3, f4, f6, f7, h1, v3, hr, Po.enc, Fr.enc, getA, getA0, setA, setA0, Trsc_mu, Trsc_fns]
  ·have hjl := (List.getElem?_eq_some_iff.1 hj).1
   have hj2 : ∀ r : Heap, (ex ++ r)[j]? = ex[j]? := fun r => List.getElem?_append_left hjl
   simp [f2', f3, f4, f6, f7, h1, v3, hr, hj, hj2, get4, mapO_pe, take_map, Po.enc, Fr.enc, getA, getA0, setA, setA0, Trsc_mu, Trsc_fns]
end Go.Proofs.YtcfklmjgofknjaaGreat

/-
 The reference's sums: sums; what a term is where a sum is 0.
-/
namespace Go.Proofs.YtcfklmjgofknjaaGreat
open Go Go.Abs Go.Limbs
variable {base : Prot}
set_option maxRecDepth 20000
attribute [local irreducible] vc
attribute [local simp] pureS touchV freezeL fuel shiftV u64 au
end Go.Proofs.YtcfklmjgofknjaaGreat

/-
 The reference's sums: sums of any; what a term is where a sum is 0; what is told of ids, and values.
-/
namespace Go.Proofs.YtcfklmjgofknjaaGreat
open Go Go.Abs Go.Limbs
variable {base : Prot}
set_option maxRecDepth 20000
attribute [local irreducible] vc
attribute [local simp] pureS touchV freezeL fuel shiftV u64 au
structure Bd where
 id : Int
 x : Fr
def Bd.enc (b : Bd) : PVal := .agg [.int .i64 b.id, .bool b.x.s, .lst (b.x.n.map u64), .lst (b.x.d.map u64)]
def wfB (l : List Bd) : Prop := ∀ b ∈ l, b.x.wf
def decBd : PVal → Option Bd
 | .agg [.int .i64 t, .bool s, .lst xs, .lst ys] => match decU xs, decU ys with | some l, some m => some ⟨t, ⟨s, l, m⟩⟩ | _, _ => none
 | _ => none
theorem decBd_enc {b : Bd} (h : b.x.wf) : decBd b.enc = some b := by simp only [decBd, Bd.enc, decU_map h.1, decU_map h.2]
theorem decBd_some {v : PVal} {b : Bd} (h : decBd v = some b) : v = b.enc ∧ b.x.wf := by
 unfold decBd at h
 split at h
 ·rename_i t s xs ys
  split at h
  ·rename_i l m hl hm
   cases h
   obtain ⟨rfl, wl⟩ := decU_some hl
   obtain ⟨rfl, wm⟩ := decU_some hm
   exact ⟨rfl, wl, wm⟩
  ·cases h
 ·cases h
def decBs : List PVal → Option (List Bd)
 | [] => some []
 | v :: r => match decBd v, decBs r with | some x, some l => some (x :: l) | _, _ => none
theorem decBs_enc : ∀ {l : List Bd}, wfB l → decBs (l.map Bd.enc) = some l
 | [], _ => rfl
 | x :: r, h => by simp only [List.map_cons, decBs, decBd_enc (h x (by simp)), decBs_enc (l := r) (fun y hy => h y (by simp [hy]))]
theorem decBs_some : ∀ {vs : List PVal} {l : List Bd}, decBs vs = some l → vs = l.map Bd.enc ∧ wfB l
 | [], l, h => by cases h; exact ⟨rfl, fun x hx => by cases hx⟩
 | v :: r, l, h => by
  unfold decBs at h
  split at h
  ·rename_i x m hx hm
   cases h
   obtain ⟨rfl, wx⟩ := decBd_some hx
   obtain ⟨rfl, wm⟩ := decBs_some hm
   refine ⟨rfl, fun y hy => ?_⟩
   rcases List.mem_cons.1 hy with rfl | hy
   ·exact wx
   ·exact wm y hy
  ·cases h
def lookB : List Bd → Int → Fr
 | [], _ => ofQ 0
 | b :: r, i => if b.id = i then b.x else lookB r i
theorem wf_lookB : ∀ {l : List Bd} {i : Int}, wfB l → (lookB l i).wf
 | [], _, _ => wf_ofQ 0
 | b :: r, i, h => by
  unfold lookB
  split
  ·exact h b (by simp)
  ·exact wf_lookB fun y hy => h y (by simp [hy])
theorem lookB_drop {i : Int} {l : List Bd} {k : Nat} {b : Bd} (hb : l[k]? = some b) : lookB (l.drop k) i = if b.id = i then b.x else lookB (l.drop (k + 1)) i := by
 have hi := (List.getElem?_eq_some_iff.1 hb).1
 rw [List.drop_eq_getElem_cons hi, getE hb]
 rfl
def sLook : List PVal → Option PVal
 | [.lst vs, .int .i64 i] => match decBs vs with | some l => some (lookB l i).enc | none => none
 | _ => none
theorem sLook_at {l : List Bd} {i : Int} (h : wfB l) : sLook [.lst (l.map Bd.enc), .int .i64 i] = some (lookB l i).enc := by simp only [sLook, decBs_enc h]
def Trlk : Tab := Tab.none.with 67 (pureS sQZero)
theorem Trlk_ok : TabOk Tryz.prog base Trlk := Tab.with_ok Tab.none_ok rzero_ok
theorem Trlk_mu (f : FuncId) (a : List AVal) (H : Heap) : Trlk.mu f a H = none := (rfl)
theorem Trlk_fns : Trlk.fn 67 = (pureS sQZero) := (rfl)
theorem rlook_ok : FnOk Tryz.prog base 25 (pureS sLook) := by
 refine pure_of_vc hmix Trlk_ok globNone low25 fun args z hs hf => ?_
 unfold sLook at hs
 split at hs
 case h_2 => cases hs
 rename_i vs n
 split at hs
 case h_2 => cases hs
 rename_i l hl
 obtain ⟨rfl, wl⟩ := decBs_some hl
 cases hs
 have hlen := (hf (.lst (l.map Bd.enc)) (by simp)).lst.1
 unfold maxLen at hlen
 simp only [List.length_map] at hlen
 refine ⟨by simp [lf25], ?_⟩
 have v2 := sQZero_nil
 obtain ⟨r, hr⟩ : ∃ r, r = lookB l n := ⟨_, rfl⟩
 rw [← hr]
 obtain ⟨z0, hz0⟩ : ∃ z0, z0 = ofQ 0 := ⟨_, rfl⟩
 rw [← hz0] at v2
 simp only [Fr.enc] at v2 ⊢
 simp [lf25]
 simp only [lf25_B0, vc_block]
 refine loop_ind (fun fr H => ∃ i : Nat, H = [⟨3, 0, false, [.agg [.p (.bool false), .tight [], .tight []]], 25⟩] ∧ i ≤ l.length ∧ r = lookB (l.drop i) n ∧ fr 0 = .p (.lst (l.map Bd.enc)) ∧ fr 1 = .p (.int .i64 n) ∧ fr 4 = .optr 0 0 0 0 ∧ fr 5 = .p (.int .i64 i)) (fun fr _ => l.length - ivar (fr 5))
  ⟨0, by simp, by omega, hr, by simp, by simp, by simp, by simp⟩ ?_
 rintro fr H ⟨i, rfl, hi, hri, f0, f1', f4', f5⟩
 by_cases h1 : i < l.length
 ·obtain ⟨b, hb⟩ : ∃ b, l[i]? = some b := ⟨_, List.getElem?_eq_getElem h1⟩
  have hbe := getE hb
  have hw := wrap_succ (i := i) (by omega)
  rw [lookB_drop hb] at hri
  by_cases ht : b.id = n
  ·rw [if_pos ht] at hri
   simp [f0, f1', f4', f5, h1, hbe, ht, hri, Bd.enc, Trlk_mu, Trlk_fns]
  ·rw [if_neg ht] at hri
   have ht2 : (b.id == n) = false := by simp [ht]
   simp [f0, f1', f4', f5, h1, hbe, ht2, hw, ivar, Bd.enc, Trlk_mu, Trlk_fns]
   exact ⟨⟨i + 1, by omega, hri, by omega⟩, by omega⟩
 ·have hil : i = l.length := by omega
  rw [hil, List.drop_length] at hri
  have : r = z0 := by rw [hri, hz0]; rfl
  rw [this]
  simp [f0, f1', f4', f5, h1, v2, Trlk_mu, Trlk_fns]
end Go.Proofs.YtcfklmjgofknjaaGreat

/-
 law8: the reference's values; what is told of ids.
-/
namespace Go.Proofs.YtcfklmjgofknjaaGreat
open Go Go.Abs Go.Limbs
variable {base : Prot}
set_option maxRecDepth 20000
attribute [local irreducible] vc
attribute [local simp] pureS touchV freezeL fuel shiftV u64 au
def sRVal : List PVal → Option PVal
 | [a, .lst vs] => match decPo a, decBs vs with | some p, some l => if p.few = true then some (pairF (valuePo (lookB l) p)) else none | _, _ => none
 | _ => none
theorem sRVal_at {p : Po} {l : List Bd} (wp : p.wf) (fp : p.few = true) (wl : wfB l) : sRVal [p.enc, .lst (l.map Bd.enc)] = some (pairF (valuePo (lookB l) p)) := by simp only [sRVal, decPo_enc wp, decBs_enc wl, fp, if_true]
def Trva : Tab := ((((Tab.none.with 62 (pureS (g1 okPo))).with 25 (pureS sLook)).with 37 (pureS (f1 boolF))).with 98 (pureS (f2 mulP))).with 34 (pureS (f2 addP))
theorem Trva_ok : TabOk Tryz.prog base Trva := Tab.with_ok (Tab.with_ok (Tab.with_ok (Tab.with_ok (Tab.with_ok Tab.none_ok rpvalid_ok) rlook_ok) rvalidR_ok) rMul_ok) rAdd_ok
theorem Trva_mu (f : FuncId) (a : List AVal) (H : Heap) : Trva.mu f a H = none := (rfl)
theorem Trva_fns : Trva.fn 62 = (pureS (g1 okPo)) ∧ Trva.fn 25 = (pureS sLook) ∧ Trva.fn 37 = (pureS (f1 boolF)) ∧ Trva.fn 98 = (pureS (f2 mulP)) ∧ Trva.fn 34 = (pureS (f2 addP)) := ⟨rfl, rfl, rfl, rfl, rfl⟩
set_option maxHeartbeats 1000000 in
theorem rvalue_ok : FnOk Tryz.prog base 64 (pureS sRVal) := by
 refine pure_of_vc hmix Trva_ok globNone low64 fun args z hs hf => ?_
 unfold sRVal at hs
 split at hs
 case h_2 => cases hs
 rename_i a vs
 split at hs
 case h_2 => cases hs
 rename_i p l hpd hl
 obtain ⟨rfl, wp⟩ := decPo_some hpd
 obtain ⟨rfl, wl⟩ := decBs_some hl
 split at hs
 case isFalse => cases hs
 rename_i fp
 cases hs
 refine ⟨by simp [lf64], ?_⟩
 have hlen := few_le fp
 have v1 : g1 okPo [p.enc] = some (.bool p.ok) := g1_at wp
 unfold pairF valuePo
 cases hp : p.ok with
 | false =>
  rw [hp] at v1
  simp only [Po.enc, Fr.enc] at v1 ⊢
  simp [lf64, v1, fillS, zF, Trva_mu, Trva_fns]
 | true =>
 rw [hp] at v1
 simp only [Bool.true_and]
 obtain ⟨lk, hlk⟩ : ∃ lk, lk = lookB l := ⟨_, rfl⟩
 have wk : ∀ i, (lk i).wf := fun i => by rw [hlk]; exact wf_lookB wl
 have vl : ∀ i, sLook [.lst (l.map Bd.enc), .int .i64 i] = some (lk i).enc := fun i => by rw [hlk]; exact sLook_at wl
 rw [← hlk]
 obtain ⟨r, hr⟩ : ∃ r, r = (if (p.ps.all fun x => (lk x.t).ok) = true then sumF lk p.ps p.c else (zF, 1)) := ⟨_, rfl⟩
 rw [← hr]
 simp only [Po.enc, Fr.enc] at v1 ⊢
 simp [lf64, v1, fillS, Trva_mu, Trva_fns]
 simp only [lf64_B0, vc_block]
 refine loop_ind (fun fr H => ∃ i : Nat, H = [⟨4, 0, false, [.p p.enc], 27⟩, ⟨3, 0, false, [.agg [.p (.bool false), .tight [], .tight []]], 25⟩] ∧
   i ≤ p.ps.length ∧ (∀ x ∈ p.ps.take i, (lk x.t).ok = true) ∧ fr 1 = .p (.lst (l.map Bd.enc)) ∧ fr 2 = .optr 0 0 0 0 ∧ fr 4 = .optr 1 0 0 0 ∧ fr 6 = .p (.int .i64 i)) (fun fr _ => p.ps.length - ivar (fr 6))
  ⟨0, by simp [Po.enc, Fr.enc], by omega, by simp, by simp, by simp, by simp, by simp⟩ ?_
 rintro fr H ⟨i, rfl, hi, hok, f1', f2', f4', f6⟩
 by_cases h1 : i < p.ps.length
 ·obtain ⟨y, hy⟩ : ∃ y, p.ps[i]? = some y := ⟨_, List.getElem?_eq_getElem h1⟩
  have hye := getE hy
  have hv := vF (wk y.t)
  have hw := wrap_succ (i := i) (by omega)
  have htk := take_succ_get hy
  have vy := vl y.t
  obtain ⟨d, hd⟩ : ∃ d, d = lk y.t := ⟨_, rfl⟩
  rw [← hd] at hv vy
  cases hdo : d.ok with
  | false =>
   rw [hdo] at hv
   have : (p.ps.all fun x => (lk x.t).ok) = false := by
    cases h : p.ps.all fun x => (lk x.t).ok with
    | false => rfl
    | true =>
     have := List.all_eq_true.1 h y (List.mem_of_getElem? hy)
     rw [← hd, hdo] at this
     cases this
   rw [this] at hr
   simp only [Fr.enc] at hv vy
   simp [f1', f2', f4', f6, h1, hye, Pa.enc, Po.enc, Fr.enc, hv, vy, hr, zF, Trva_mu, Trva_fns]
  | true =>
   rw [hdo] at hv
   simp only [Fr.enc] at hv vy
   simp [f1', f2', f4', f6, h1, hye, Pa.enc, Po.enc, Fr.enc, hv, vy, hw, ivar, Trva_mu, Trva_fns]
   exact ⟨⟨i + 1, by omega, fun x hx => by
    rw [htk] at hx
    rcases List.mem_append.1 hx with hx | hx
    ·exact hok x hx
    ·rw [List.mem_singleton] at hx; subst hx; rw [← hd]; exact hdo, by omega⟩, by omega⟩
 ·have hil : i = p.ps.length := by omega
  rw [hil, List.take_length] at hok
  have hall : (p.ps.all fun x => (lk x.t).ok) = true := List.all_eq_true.2 hok
  rw [hall, if_pos rfl] at hr
  simp [f1', f2', f4', f6, h1, Po.enc, Fr.enc, fillS, Trva_mu, Trva_fns]
  simp only [lf64_B1, vc_block]
  refine loop_ind (fun fr H => ∃ (i : Nat) (s : Fr) (ex : Heap), H = ⟨4, 0, false, [.p p.enc], 27⟩ :: ⟨3, 0, false, [.agg [.p (.bool false), .tight [], .tight []]], 25⟩ :: ⟨3, 0, false, [.p s.enc], 25⟩ :: ex ∧
   i ≤ p.ps.length ∧ s.wf ∧ s.ok = true ∧ r = sumF lk (p.ps.drop i) s ∧
   fr 1 = .p (.lst (l.map Bd.enc)) ∧ fr 2 = .optr 0 0 0 0 ∧ fr 4 = .optr 1 0 0 0 ∧ fr 7 = .optr 2 0 0 0 ∧ fr 8 = .p (.int .i64 i)) (fun fr _ => p.ps.length - ivar (fr 8))
   ⟨0, p.c, [], by simp [Po.enc, Fr.enc], by omega, wp.2, ok_const hp, hr, by simp [f1'], by simp [f2'], by simp [f4'], by simp, by simp⟩ ?_
  clear f1' f2' f4' f6
  rintro fr H ⟨i, s, ex, rfl, hi, ws, os, hrs, f1', f2', f4', f7, f8⟩
  by_cases h1 : i < p.ps.length
  ·obtain ⟨y, hy⟩ : ∃ y, p.ps[i]? = some y := ⟨_, List.getElem?_eq_getElem h1⟩
   have hye := getE hy
   have wy : y.c.wf := wp.1 y (List.mem_of_getElem? hy)
   have oy := ok_part hp (List.mem_of_getElem? hy)
   have ok2 : (lk y.t).ok = true := hok y (List.mem_of_getElem? hy)
   have hw := wrap_succ (i := i) (by omega)
   have m1 := mulP_at wy (wk y.t)
   have vy := vl y.t
   rw [sumF_drop hy] at hrs
   obtain ⟨e, he0⟩ : ∃ e, e = lk y.t := ⟨_, rfl⟩
   rw [← he0] at m1 ok2 hrs vy
   rcases mulF_err oy ok2 with he | he
   case inr =>
    rw [he] at m1 hrs
    simp only [show ¬ (4 = 0) by decide, if_false] at hrs
    simp only [Fr.enc, zF] at m1 vy
    simp [f1', f2', f4', f7, f8, h1, hye, Pa.enc, Po.enc, Fr.enc, Trva_mu, Trva_fns]
    rw [vc_regionW]
    refine ⟨[], ?_⟩
    simp [f1', f2', f4', f7, f8, h1, hye, vy, m1, hrs, zF, Pa.enc, Po.enc, Fr.enc, getA, getA0, setA, setA0, Trva_mu, Trva_fns]
    exact snoc3
   obtain ⟨d, hd⟩ : ∃ d, d = (mulF y.c e).1 := ⟨_, rfl⟩
   have wd : d.wf := by rw [hd]; exact wf_mulF _ _
   have od : d.ok = true := by rw [hd]; exact ok_mulF he
   rw [he, ← hd] at m1
   rw [he, ← hd, if_pos rfl] at hrs
   have m2 := addP_at ws wd
   rcases addF_err os od with he2 | he2
   case inr =>
    rw [he2] at m2 hrs
    simp only [show ¬ (4 = 0) by decide, if_false] at hrs
    simp only [Fr.enc, zF] at m1 m2 vy
    simp [f1', f2', f4', f7, f8, h1, hye, Pa.enc, Po.enc, Fr.enc, Trva_mu, Trva_fns]
    rw [vc_regionW]
    refine ⟨[], ?_⟩
    simp [f1', f2', f4', f7, f8, h1, hye, vy, m1, m2, hrs, zF, Pa.enc, Po.enc, Fr.enc, getA, getA0, setA, setA0, Trva_mu, Trva_fns]
    exact snoc3
   obtain ⟨u, hu⟩ : ∃ u, u = (addF s d).1 := ⟨_, rfl⟩
   have wu : u.wf := by rw [hu]; exact wf_addF _ _
   have ou : u.ok = true := by rw [hu]; exact ok_addF he2
   rw [he2, ← hu] at m2
   rw [he2, ← hu, if_pos rfl] at hrs
   simp only [Fr.enc] at m1 m2 vy
   simp [f1', f2', f4', f7, f8, h1, hye, Pa.enc, Po.enc, Fr.enc, Trva_mu, Trva_fns]
   rw [vc_regionW]
   refine ⟨[], ?_⟩
   simp [f1', f2', f4', f7, f8, h1, hye, vy, m1, m2, hw, ivar, zF, Pa.enc, Po.enc, Fr.enc, getA, getA0, setA, setA0, Trva_mu, Trva_fns]
   exact ⟨snoc3, ⟨i + 1, u, ⟨rfl, rfl, rfl⟩, by omega, wu, ou, hrs, by omega⟩, by omega⟩
  ·have hil : i = p.ps.length := by omega
   rw [hil, List.drop_length] at hrs
   simp only [sumF] at hrs
   simp [f2', f4', f7, f8, h1, hrs, Po.enc, Fr.enc]
end Go.Proofs.YtcfklmjgofknjaaGreat
