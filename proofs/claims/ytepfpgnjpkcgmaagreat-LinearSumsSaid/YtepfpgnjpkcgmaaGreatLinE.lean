/-
  What the reference's functions of sums compute, for at most a million parts.
-/
import Derived.Test.YtepfpgnjpkcgmaaGreatLinD
import Derived.Test.YtepfpgnjpkcgmaaGreatRatM
set_option linter.unusedSimpArgs false
set_option linter.unnecessarySimpa false
set_option linter.unusedVariables false
set_option linter.constructorNameAsVariable false

/-
  The reference's sums: what is one, a term's number, without a term, the same.
-/
namespace Go.Proofs.YtepfpgnjpkcgmaaGreat
open Go Go.Abs Go.Limbs
variable {base : Prot}
set_option maxRecDepth 20000
attribute [local irreducible] vc
attribute [local simp] pureS touchV freezeL fuel shiftV u64 au
def Trz : Tab := ((Tab.none.with 82 (pureS sQOf)).with 50 (pureS (f1 boolF))).with 29 (pureS (f2 sameP))
theorem Trz_ok : TabOk Tryz.prog base Trz := Tab.with_ok (Tab.with_ok (Tab.with_ok Tab.none_ok rofR_ok) rvalidR_ok) rsame_ok
theorem Trz_mu (f : FuncId) (a : List AVal) (H : Heap) : Trz.mu f a H = none := (rfl)
theorem Trz_fns : Trz.fn 82 = (pureS sQOf) ∧ Trz.fn 50 = (pureS (f1 boolF)) ∧ Trz.fn 29 = (pureS (f2 sameP)) := ⟨rfl, rfl, rfl⟩
theorem z1_eq : Rat.divInt 0 1 = 0 := by decide +kernel
theorem rzero_ok : FnOk Tryz.prog base 91 (pureS sQZero) := by
  refine pure_of_vc hmix Trz_ok globNone low91 fun args z hs hf => ?_
  unfold sQZero at hs
  split at hs
  case h_2 => cases hs
  cases hs
  refine ⟨by simp [lf91], ?_⟩
  have o1 := ofR (n := 0) (d := 1) (by decide)
  rw [z1_eq] at o1
  obtain ⟨x, hx⟩ : ∃ x, x = ofQ 0 := ⟨_, rfl⟩
  rw [← hx] at o1 ⊢
  simp only [Fr.enc] at o1 ⊢
  simp [lf91, o1, Trz_mu, Trz_fns]
theorem rpvalid_ok : FnOk Tryz.prog base 31 (pureS (g1 okPo)) := by
  refine pure_of_vc hmix Trz_ok globNone low31 fun args z hs hf => ?_
  obtain ⟨p, wp, rfl, rfl⟩ := g1_some hs
  refine ⟨by simp [lf31], ?_⟩
  unfold okPo
  have hlen := len_ps (hf _ (List.mem_singleton.2 rfl))
  have hc : f1 boolF [p.c.enc] = some (.bool p.c.ok) := vF wp.2
  simp only [Po.enc, Fr.enc] at hc ⊢
  simp [lf31, fillS]
  simp only [lf31_B0, vc_block]
  refine loop_ind (fun fr H => ∃ (i : Nat) (ex : Heap), H = ⟨4, 0, false, [.p p.enc], 27⟩ :: ex ∧ i ≤ p.ps.length ∧ okParts (-1) p.ps = okParts (lastT p.ps i) (p.ps.drop i) ∧ fr 1 = .optr 0 0 0 0 ∧ fr 3 = .p (.int .i64 (lastT p.ps i)) ∧ fr 4 = .p (.int .i64 i)) (fun fr _ => p.ps.length - ivar (fr 4))
    ⟨0, [], by simp [Po.enc, Fr.enc], by omega, rfl, by simp, by simp [lastT], by simp⟩ ?_
  rintro fr H ⟨i, ex, rfl, hi, hok, f1', f3, f4⟩
  by_cases h1 : i < p.ps.length
  · obtain ⟨x, hx⟩ : ∃ x, p.ps[i]? = some x := ⟨_, List.getElem?_eq_getElem h1⟩
    have wx : x.c.wf := wp.1 x (List.mem_of_getElem? hx)
    have hv : f1 boolF [x.c.enc] = some (.bool x.c.ok) := vF wx
    simp only [Fr.enc] at hv
    have hxe := getE hx
    have hw := wrap_succ (i := i) (by omega)
    rw [okParts_at hx] at hok
    have hlx : lastT p.ps (i + 1) = x.t := by simp only [lastT, hx]
    have bad : (decide (lastT p.ps i < x.t) && x.c.ok && !decide (x.c.n = [])) = false → p.ok = false := fun h => by
      unfold Po.ok
      rw [hok, h]
      rfl
    by_cases ha : x.t ≤ lastT p.ps i
    · rw [bad (by rw [decide_eq_false (show ¬ lastT p.ps i < x.t by omega)]; rfl)]
      simp [f1', f3, f4, h1, hxe, Pa.enc, Po.enc, Fr.enc, ha, binS, getA, getA0, setA, setA0, Trz_mu, Trz_fns]
    · cases hvk : x.c.ok with
      | false =>
        rw [hvk] at hv
        rw [bad (by rw [hvk]; simp)]
        simp [f1', f3, f4, h1, hxe, Pa.enc, Po.enc, Fr.enc, ha, hv, binS, getA, getA0, setA, setA0, Trz_mu, Trz_fns]
      | true =>
        rw [hvk] at hv
        by_cases hn : x.c.n = []
        · rw [bad (by rw [decide_eq_true hn]; simp)]
          rw [hn] at hv
          simp only [List.map_nil] at hv
          simp [f1', f3, f4, h1, hxe, Pa.enc, Po.enc, Fr.enc, ha, hv, hn, binS, getA, getA0, setA, setA0, Trz_mu, Trz_fns]
        · have hn0 : ((x.c.n.length : Int) == 0) = false := by
            have := List.length_pos_iff.2 hn
            simp; exact hn
          have hg : okParts (-1) p.ps = okParts (lastT p.ps (i + 1)) (p.ps.drop (i + 1)) := by rw [hok, decide_eq_true (show lastT p.ps i < x.t by omega), hvk, decide_eq_false hn]; rfl
          simp [f1', f3, f4, h1, hxe, Pa.enc, Po.enc, Fr.enc, ha, hv, hn, hn0, hw, binS, ivar, getA, getA0, setA, setA0, Trz_mu, Trz_fns]
          exact ⟨⟨i + 1, by omega, hg, hlx.symm, by omega⟩, by omega⟩
  · have hil : i = p.ps.length := by omega
    rw [hil, List.drop_length] at hok
    have : p.ok = p.c.ok := by unfold Po.ok; rw [hok]; rfl
    rw [this]
    simp [f1', f4, h1, Po.enc, Fr.enc, hc, Trz_mu, Trz_fns]
/-! ### A term's number, and what is left without it -/
def Trco : Tab := (Tab.none.with 31 (pureS (g1 okPo))).with 91 (pureS sQZero)
theorem Trco_ok : TabOk Tryz.prog base Trco := Tab.with_ok (Tab.with_ok Tab.none_ok rpvalid_ok) rzero_ok
theorem Trco_mu (f : FuncId) (a : List AVal) (H : Heap) : Trco.mu f a H = none := (rfl)
theorem Trco_fns : Trco.fn 31 = (pureS (g1 okPo)) ∧ Trco.fn 91 = (pureS sQZero) := ⟨rfl, rfl⟩
theorem findF_drop {t : Int} {l : List Pa} {i : Nat} {x : Pa} (hx : l[i]? = some x) : findF t (l.drop i) = if x.t = t then some x.c else findF t (l.drop (i + 1)) := by
  have hi := (List.getElem?_eq_some_iff.1 hx).1
  rw [List.drop_eq_getElem_cons hi, getE hx]
  rfl
theorem rcoef_ok : FnOk Tryz.prog base 33 (pureS (gi coefP)) := by
  refine pure_of_vc hmix Trco_ok globNone low33 fun args z hs hf => ?_
  obtain ⟨p, t, wp, rfl, rfl⟩ := gi_some hs
  refine ⟨by simp [lf33], ?_⟩
  have hlen := len_ps (hf p.enc (by simp))
  have v1 : g1 okPo [p.enc] = some (.bool p.ok) := g1_at wp
  have v2 := sQZero_nil
  unfold coefP
  have hc1 : ∀ c, findF t p.ps = some c → coefPo p t = if p.ok then c else ofQ 0 := fun c h => by unfold coefPo; rw [h]
  have hc2 : findF t p.ps = none → coefPo p t = ofQ 0 := fun h => by unfold coefPo; rw [h]
  have hc3 : p.ok = false → coefPo p t = ofQ 0 := fun h => by unfold coefPo; rw [h]; cases findF t p.ps <;> rfl
  obtain ⟨r, hr⟩ : ∃ r, r = coefPo p t := ⟨_, rfl⟩
  rw [← hr] at hc1 hc2 hc3 ⊢
  obtain ⟨z0, hz0⟩ : ∃ z0, z0 = ofQ 0 := ⟨_, rfl⟩
  rw [← hz0] at v2 hc1 hc2 hc3
  simp only [Po.enc, Fr.enc] at v1 v2 ⊢
  simp [lf33, fillS]
  simp only [lf33_B0, vc_block]
  refine loop_ind (fun fr H => ∃ i : Nat, H = [⟨4, 0, false, [.p p.enc], 27⟩, ⟨3, 0, false, [.agg [.p (.bool false), .tight [], .tight []]], 25⟩] ∧ i ≤ p.ps.length ∧ findF t p.ps = findF t (p.ps.drop i) ∧ fr 1 = .p (.int .i64 t) ∧ fr 2 = .optr 0 0 0 0 ∧ fr 4 = .optr 1 0 0 0 ∧ fr 5 = .p (.int .i64 i)) (fun fr _ => p.ps.length - ivar (fr 5))
    ⟨0, by simp [Po.enc, Fr.enc], by omega, rfl, by simp, by simp, by simp, by simp⟩ ?_
  rintro fr H ⟨i, rfl, hi, hfi, f1', f2', f4', f5⟩
  by_cases h1 : i < p.ps.length
  · obtain ⟨x, hx⟩ : ∃ x, p.ps[i]? = some x := ⟨_, List.getElem?_eq_getElem h1⟩
    have hxe := getE hx
    have hw := wrap_succ (i := i) (by omega)
    rw [findF_drop hx] at hfi
    cases hok : p.ok with
    | false =>
      rw [hok] at v1
      have : r = z0 := hc3 hok
      rw [this]
      simp [f1', f2', f4', f5, h1, Po.enc, Fr.enc, v1, v2, Trco_mu, Trco_fns]
    | true =>
      rw [hok] at v1
      by_cases ht : x.t = t
      · rw [if_pos ht] at hfi
        have : r = x.c := by rw [hc1 _ hfi, hok]; rfl
        rw [this]
        simp [f1', f2', f4', f5, h1, hxe, ht, Pa.enc, Po.enc, Fr.enc, v1, Trco_mu, Trco_fns]
      · rw [if_neg ht] at hfi
        have ht2 : (x.t == t) = false := by simp [ht]
        simp [f1', f2', f4', f5, h1, hxe, ht2, hw, ivar, Pa.enc, Po.enc, Fr.enc, v1, Trco_mu, Trco_fns]
        exact ⟨⟨i + 1, by omega, hfi, by omega⟩, by omega⟩
  · have hil : i = p.ps.length := by omega
    rw [hil, List.drop_length] at hfi
    have : r = z0 := hc2 hfi
    rw [this]
    simp [f1', f2', f4', f5, h1, Po.enc, Fr.enc, v2, Trco_mu, Trco_fns]
/-! ### The same -/
theorem rpsame_ok : FnOk Tryz.prog base 28 (pureS (g2 samePo)) := by
  refine pure_of_vc hmix Trz_ok globNone low28 fun args z hs hf => ?_
  obtain ⟨p, q, wp, wq, rfl, rfl⟩ := g2_some hs
  refine ⟨by simp [lf28], ?_⟩
  have hlen := len_ps (hf p.enc (by simp))
  have v1 : f2 sameP [p.c.enc, q.c.enc] = some (.bool (decide (p.c = q.c))) := by rw [f2_at wp.2 wq.2]; unfold sameP; rw [sameF_iff]
  unfold samePo
  by_cases hlm : p.ps.length = q.ps.length
  · have hl1 : ((p.ps.length : Int) != q.ps.length) = false := by simp [hlm]
    by_cases hcc : p.c = q.c
    · rw [decide_eq_true hcc] at v1
      simp only [Po.enc, Fr.enc] at v1 ⊢
      simp [lf28, hl1, v1, Trz_mu, Trz_fns]
      simp only [lf28_B0, vc_block]
      refine loop_ind (fun fr H => ∃ i : Nat, H = [⟨4, 0, false, [.p p.enc], 27⟩, ⟨4, 0, false, [.p q.enc], 27⟩] ∧ i ≤ p.ps.length ∧ fr 2 = .optr 0 0 0 0 ∧ fr 3 = .optr 1 0 0 0 ∧ fr 5 = .p (.int .i64 i) ∧ p.ps.take i = q.ps.take i) (fun fr _ => p.ps.length - ivar (fr 5))
        ⟨0, by simp [Po.enc, Fr.enc], by omega, by simp, by simp, by simp, by simp⟩ ?_
      rintro fr H ⟨i, rfl, hi, f2', f3, f5, hj⟩
      by_cases h1 : i < p.ps.length
      · obtain ⟨x, hx⟩ : ∃ x, p.ps[i]? = some x := ⟨_, List.getElem?_eq_getElem h1⟩
        have him : i < q.ps.length := by omega
        obtain ⟨y, hy⟩ : ∃ y, q.ps[i]? = some y := ⟨_, List.getElem?_eq_getElem him⟩
        have hxe := getE hx
        have hye := getE hy
        have hw := wrap_succ (i := i) (by omega)
        have hv : f2 sameP [x.c.enc, y.c.enc] = some (.bool (decide (x.c = y.c))) := by rw [f2_at (wp.1 x (List.mem_of_getElem? hx)) (wq.1 y (List.mem_of_getElem? hy))]; unfold sameP; rw [sameF_iff]
        have hne : ¬ x = y → decide (p = q) = false := fun h => decide_eq_false (by
          rintro rfl
          rw [hx] at hy
          exact h (by cases hy; rfl))
        by_cases ht : x.t = y.t
        · have ht2 : (x.t != y.t) = false := by simp [ht]
          by_cases hc : x.c = y.c
          · rw [decide_eq_true hc] at hv
            have hxy : x = y := pa_eq.2 ⟨hc, ht⟩
            have hj' : p.ps.take (i + 1) = q.ps.take (i + 1) := by rw [List.take_add_one, List.take_add_one, hj, hx, hy, hxy]
            simp only [Fr.enc] at hv
            simp [f2', f3, f5, h1, him, hxe, hye, ht, ht2, hw, ivar, Pa.enc, Po.enc, Fr.enc, hv, Trz_mu, Trz_fns]
            exact ⟨⟨i + 1, by omega, by omega, hj'⟩, by omega⟩
          · rw [decide_eq_false hc] at hv
            rw [hne (fun h => hc (by rw [h]))]
            simp only [Fr.enc] at hv
            simp [f2', f3, f5, h1, him, hxe, hye, ht, ht2, Pa.enc, Po.enc, Fr.enc, hv, Trz_mu, Trz_fns]
        · have ht2 : (x.t != y.t) = true := by simp [ht]
          rw [hne (fun h => ht (by rw [h]))]
          simp [f2', f3, f5, h1, him, hxe, hye, ht, ht2, Pa.enc, Po.enc, Fr.enc, Trz_mu, Trz_fns]
      · have hil : i = p.ps.length := by omega
        subst hil
        have hxy : p = q := by
          rw [List.take_of_length_le (Nat.le_refl _), List.take_of_length_le (by omega)] at hj
          exact po_eq.2 ⟨hj, hcc⟩
        rw [decide_eq_true hxy]
        simp [f2', f5, Po.enc, Fr.enc]
    · rw [decide_eq_false hcc] at v1
      rw [decide_eq_false (fun h => hcc (by rw [h]))]
      simp only [Po.enc, Fr.enc] at v1 ⊢
      simp [lf28, hl1, v1, Trz_mu, Trz_fns]
  · have hl1 : ((p.ps.length : Int) != q.ps.length) = true := by simp; omega
    rw [decide_eq_false (fun h => hlm (by rw [h]))]
    simp only [Po.enc, Fr.enc]
    simp [lf28, hl1, Trz_mu, Trz_fns]
end Go.Proofs.YtepfpgnjpkcgmaaGreat

/-
  The reference's sums: without a term, multiples.
-/
namespace Go.Proofs.YtepfpgnjpkcgmaaGreat
open Go Go.Abs Go.Limbs
variable {base : Prot}
set_option maxRecDepth 20000
attribute [local irreducible] vc
attribute [local simp] pureS touchV freezeL fuel shiftV u64 au
/-! ### Without -/
def neT (t : Int) (x : Pa) : Bool := !decide (x.t = t)
theorem filter_all {t : Int} : ∀ {l : List Pa} {a : Int}, okParts a l = true → t ≤ a → l.filter (neT t) = l
  | [], _, _, _ => rfl
  | x :: r, a, h, ha => by
    simp only [okParts, Bool.and_eq_true, decide_eq_true_eq] at h
    have h1 := h.1.1.1
    rw [List.filter_cons, if_pos (by simp [neT]; omega), filter_all h.2 (by omega)]
theorem filter_drop {t : Int} : ∀ {l : List Pa} {a : Int}, okParts a l = true → l.filter (neT t) = dropF t l
  | [], _, _ => rfl
  | x :: r, a, h => by
    simp only [okParts, Bool.and_eq_true, decide_eq_true_eq] at h
    unfold dropF
    by_cases ht : x.t = t
    · rw [if_pos ht, List.filter_cons, if_neg (by simp [neT, ht]), filter_all h.2 (by omega)]
    · rw [if_neg ht, List.filter_cons, if_pos (by simp [neT, ht]), filter_drop h.2]
def giv (g : Po → Int → PVal) : List PVal → Option PVal
  | [a, .int .i64 t] => match decPo a with | some p => if (p.few && p.ok) = true then some (g p t) else none | _ => none
  | _ => none
theorem giv_at {g : Po → Int → PVal} {p : Po} {t : Int} (h : p.wf) (f1 : p.few = true) (f2 : p.ok = true) : giv g [p.enc, .int .i64 t] = some (g p t) := by simp only [giv, decPo_enc h, f1, f2, Bool.and_self, if_true]
theorem giv_some {g : Po → Int → PVal} {args : List PVal} {z : PVal} (h : giv g args = some z) : ∃ (p : Po) (t : Int), p.wf ∧ p.few = true ∧ p.ok = true ∧ args = [p.enc, .int .i64 t] ∧ z = g p t := by
  unfold giv at h
  split at h
  · split at h
    · rename_i p hp
      obtain ⟨rfl, w⟩ := decPo_some hp
      split at h
      · rename_i hf
        rw [Bool.and_eq_true] at hf
        cases h; exact ⟨p, _, w, hf.1, hf.2, rfl, rfl⟩
      · cases h
    · cases h
  · cases h
theorem rwithout_ok : FnOk Tryz.prog base 98 (pureS (giv withoutP)) := by
  refine pure_of_vc hmix Tab.none_ok globNone low98 fun args z hs hf => ?_
  obtain ⟨p, t, wp, fp, op, rfl, rfl⟩ := giv_some hs
  refine ⟨by simp [lf98], ?_⟩
  have hlen := few_le fp
  have hm := maxLen_ge
  unfold withoutP withoutPo
  have hop := op
  unfold Po.ok at hop
  rw [Bool.and_eq_true] at hop
  rw [← filter_drop hop.1]
  simp only [Po.enc, Fr.enc]
  simp [lf98, fillS]
  simp only [lf98_B0, vc_block]
  refine loop_ind (fun fr H => ∃ (i : Nat) (x : AVal) (ex : Heap), H = ⟨4, 0, false, [.p p.enc], 27⟩ :: ⟨4, 0, false, [.agg [.tight [], .p (.bool false), .tight [], .tight []]], 27⟩ :: ⟨4, 0, false, [.agg [x, .p (.bool p.c.s), .p (.lst (p.c.n.map u64)), .p (.lst (p.c.d.map u64))]], 27⟩ :: ex ∧
      i ≤ p.ps.length ∧ Grown 3 4 112 (((p.ps.take i).filter (neT t)).map Pa.enc) x ex ∧ fr 1 = .p (.int .i64 t) ∧ fr 2 = .optr 0 0 0 0 ∧ fr 4 = .optr 1 0 0 0 ∧ fr 5 = .optr 2 0 0 0 ∧ fr 6 = .p (.int .i64 i)) (fun fr _ => p.ps.length - ivar (fr 6))
    ⟨0, .tight [], [], by simp [Po.enc, Fr.enc], by omega, by simp; exact .nil _ _ _ _, by simp, by simp, by simp, by simp, by simp⟩ ?_
  rintro fr H ⟨i, x, ex, rfl, hi, hg, f1', f2', f4', f5, f6⟩
  by_cases h1 : i < p.ps.length
  · obtain ⟨y, hy⟩ : ∃ y, p.ps[i]? = some y := ⟨_, List.getElem?_eq_getElem h1⟩
    have hye := getE hy
    have hw := wrap_succ (i := i) (by omega)
    have htk := take_succ_get hy
    by_cases ht : y.t = t
    · have ht2 : (y.t != t) = false := by simp [ht]
      have ht3 : (y.t == t) = true := by simp [ht]
      rcases hg.form with rfl | ⟨kk, nn, vv, rfl⟩
      all_goals
        simp [f1', f2', f4', f5, f6, h1, hye, ht2, ht3, hw, ivar, Pa.enc, Po.enc, Fr.enc]
        exact ⟨⟨i + 1, _, _, ⟨rfl, rfl⟩, by omega, by rw [htk, List.filter_append, List.filter_cons, if_neg (by simp [neT, ht])]; simpa using hg, by omega⟩, by omega⟩
    · have ht2 : (y.t != t) = true := by simp [ht]
      have ht3 : (y.t == t) = false := by simp [ht]
      have hfl : ((p.ps.take i).filter (neT t)).length ≤ i := Nat.le_trans (List.length_filter_le _ _) (by simp; omega)
      obtain ⟨k', v', ex', happ, hg'⟩ := (hg.more [⟨4, 0, false, [.p y.enc], 112⟩]).app (pre := [⟨4, 0, false, [.p p.enc], 27⟩, ⟨4, 0, false, [.agg [.tight [], .p (.bool false), .tight [], .tight []]], 27⟩, ⟨4, 0, false, [.agg [x, .p (.bool p.c.s), .p (.lst (p.c.n.map u64)), .p (.lst (p.c.d.map u64))]], 27⟩]) rfl (y := y.enc) rfl rfl (by omega) (bytes := 64) (by rw [List.length_map]; omega) (by rw [List.length_map]; omega)
      obtain ⟨fl, hfl2⟩ : ∃ fl, fl = (p.ps.take i).filter (neT t) := ⟨_, rfl⟩
      rw [← hfl2] at happ hg' hg
      have hnew : (p.ps.take (i + 1)).filter (neT t) = fl ++ [y] := by rw [htk, List.filter_append, List.filter_cons, if_pos (by simp [neT, ht]), hfl2]; rfl
      simp only [Po.enc, Fr.enc, Pa.enc, List.cons_append, List.nil_append] at happ
      rcases hg.form with rfl | ⟨kk, nn, vv, rfl⟩
      all_goals
        simp [f1', f2', f4', f5, f6, h1, hye, ht2, ht3, Pa.enc, Po.enc, Fr.enc]
        rw [vc_regionW]
        refine ⟨[], ?_⟩
        simp [f1', f2', f4', f5, f6, h1, hye, ht2, ht3, hw, ivar, fillS, -appV, happ, Pa.enc, Po.enc, Fr.enc, getA, getA0, setA, setA0]
        exact ⟨snoc3, ⟨i + 1, _, _, ⟨rfl, rfl⟩, by omega, by rw [hnew]; simpa using hg', by omega⟩, by omega⟩
  · have hil : i = p.ps.length := by omega
    rw [hil, List.take_length] at hg
    obtain ⟨fl, hfl⟩ : ∃ fl, fl = p.ps.filter (neT t) := ⟨_, rfl⟩
    rw [← hfl] at hg ⊢
    rcases hg with ⟨he, rfl⟩ | ⟨j, v, rfl, hj⟩
    · have : fl = [] := by simpa using he
      subst this
      simp [f1', f2', f4', f5, f6, h1, Po.enc, Fr.enc]
    · simp [f1', f2', f4', f5, f6, h1, hj, get3, mapO_pe, take_map, Po.enc, Fr.enc]
/-! ### Multiples -/
theorem mulF_zero {x k : Fr} (hx : x.ok = true) (hk : k.ok = true) (h0 : k.n = []) : mulF x k = (ofQ 0, 0) := by
  obtain ⟨q, hq, rfl⟩ := Fr.ok_of hk
  have h1 : q = 0 := by
    have : limbs q.num.natAbs = [] := h0
    rw [limbs_eq_nil, Int.natAbs_eq_zero, Rat.num_eq_zero] at this
    exact this
  subst h1
  unfold mulF
  rw [hx, hk, q_ofQ, Rat.mul_zero]
  exact heldQ_ok Sm0
def Trsc : Tab := (((Tab.none.with 31 (pureS (g1 okPo))).with 91 (pureS sQZero)).with 50 (pureS (f1 boolF))).with 92 (pureS (f2 mulP))
theorem Trsc_ok : TabOk Tryz.prog base Trsc := Tab.with_ok (Tab.with_ok (Tab.with_ok (Tab.with_ok Tab.none_ok rpvalid_ok) rzero_ok) rvalidR_ok) rMul_ok
theorem Trsc_mu (f : FuncId) (a : List AVal) (H : Heap) : Trsc.mu f a H = none := (rfl)
theorem Trsc_fns : Trsc.fn 31 = (pureS (g1 okPo)) ∧ Trsc.fn 91 = (pureS sQZero) ∧ Trsc.fn 50 = (pureS (f1 boolF)) ∧ Trsc.fn 92 = (pureS (f2 mulP)) := ⟨rfl, rfl, rfl, rfl⟩
theorem rscale_ok : FnOk Tryz.prog base 20 (pureS (gks scaleP)) := by
  refine pure_of_vc hmix Trsc_ok globNone low20 fun args z hs hf => ?_
  obtain ⟨p, k, wp, wk, fp, rfl, rfl⟩ := gks_some hs
  refine ⟨by simp [lf20], ?_⟩
  have hlen := few_le fp
  have v1 : g1 okPo [p.enc] = some (.bool p.ok) := g1_at wp
  have v2 := vF wk
  have v3 := mulP_at wp.2 wk
  have v4 := sQZero_nil
  have hm := maxLen_ge
  unfold scaleP pairPo scalePo
  cases hp : p.ok with
  | false =>
    rw [hp] at v1
    simp only [Po.enc, Fr.enc] at v1 ⊢
    simp [lf20, v1, fillS, Trsc_mu, Trsc_fns, zPo, zF]
  | true =>
  rw [hp] at v1
  cases hk : k.ok with
  | false =>
    rw [hk] at v2
    simp only [Po.enc, Fr.enc] at v1 v2 ⊢
    simp [lf20, v1, v2, fillS, Trsc_mu, Trsc_fns, zPo, zF]
  | true =>
  rw [hk] at v2
  by_cases hk0 : k.n = []
  · rw [mulF_zero (ok_const hp) hk hk0]
    simp only [Bool.and_self, if_true, if_pos hk0]
    obtain ⟨z0, hz0⟩ : ∃ z0, z0 = ofQ 0 := ⟨_, rfl⟩
    rw [← hz0] at v4 ⊢
    have v2' := v2
    simp only [Po.enc, Fr.enc, hk0, List.map_nil] at v1 v2' v4 ⊢
    simp [lf20, v1, v2', v4, fillS, Trsc_mu, Trsc_fns]
  have hkn : ((k.n.length : Int) == 0) = false := by simp [hk0]
  obtain ⟨r, hr⟩ : ∃ r, r = (if (mulF p.c k).2 = 0 then withC (mulF p.c k).1 (scaleF k p.ps) else (zPo, 4)) := ⟨_, rfl⟩
  simp only [Bool.and_self, if_true, if_neg hk0]
  rw [← hr]
  simp only [Po.enc, Fr.enc] at v1 v2 v3 ⊢
  simp [lf20, v1, v2, hkn, hk0, fillS, Trsc_mu, Trsc_fns]
  simp only [lf20_B0, vc_block]
  refine loop_ind (fun fr H => ∃ (i : Nat) (es : List Pa) (x : AVal) (ex : Heap), H = ⟨4, 0, false, [.p p.enc], 27⟩ :: ⟨3, 0, false, [.p k.enc], 25⟩ :: ⟨4, 0, false, [.agg [.tight [], .p (.bool false), .tight [], .tight []]], 27⟩ :: ⟨4, 0, false, [.agg [x, .p (.bool false), .tight [], .tight []]], 27⟩ :: ex ∧
      i ≤ p.ps.length ∧ es.length = i ∧ Grown 4 4 112 (es.map Pa.enc) x ex ∧ scaleF k p.ps = (scaleF k (p.ps.drop i)).map (es ++ ·) ∧
      fr 2 = .optr 0 0 0 0 ∧ fr 3 = .optr 1 0 0 0 ∧ fr 4 = .optr 2 0 0 0 ∧ fr 6 = .optr 3 0 0 0 ∧ fr 7 = .p (.int .i64 i)) (fun fr _ => p.ps.length - ivar (fr 7))
    ⟨0, [], .tight [], [], by simp [Po.enc, Fr.enc], by omega, rfl, .nil _ _ _ _, by simp, by simp, by simp, by simp, by simp, by simp⟩ ?_
  rintro fr H ⟨i, es, x, ex, rfl, hi, hes, hg, hsc, f2', f3, f4, f6, f7⟩
  by_cases h1 : i < p.ps.length
  · obtain ⟨y, hy⟩ : ∃ y, p.ps[i]? = some y := ⟨_, List.getElem?_eq_getElem h1⟩
    have wy : y.c.wf := wp.1 y (List.mem_of_getElem? hy)
    have hye := getE hy
    have hmu := mulP_at wy wk
    rw [scaleF_drop hy] at hsc
    have hw := wrap_succ (i := i) (by omega)
    rcases mulF_err (ok_part hp (List.mem_of_getElem? hy)) hk with he | he
    case inr =>
      rw [he] at hmu hsc
      simp only [show ¬ (4 = 0) by decide, if_false, Option.map_none] at hsc
      rw [hsc] at hr
      have hr2 : r = (zPo, 4) := by rw [hr]; split <;> rfl
      simp only [Fr.enc, zF] at hmu
      rcases hg.form with rfl | ⟨kk, nn, vv, rfl⟩
      all_goals
        simp [f2', f3, f4, f6, f7, h1, hye, Pa.enc, Po.enc, Fr.enc, Trsc_mu, Trsc_fns]
        rw [vc_regionW]
        refine ⟨[], ?_⟩
        simp [f2', f3, f4, f6, f7, h1, hye, hmu, hr2, zPo, zF, Pa.enc, Po.enc, Fr.enc, getA, getA0, setA, setA0, Trsc_mu, Trsc_fns]
        exact snoc4
    obtain ⟨d, hd⟩ : ∃ d, d = (mulF y.c k).1 := ⟨_, rfl⟩
    rw [he, ← hd] at hmu
    rw [he, ← hd, if_pos rfl] at hsc
    obtain ⟨k', v', ex', happ, hg'⟩ := (hg.more [⟨3, 0, false, [.p d.enc], 25⟩, ⟨4, 0, false, [.p (.agg [.bool d.s, .lst (d.n.map u64), .lst (d.d.map u64), .int .i64 y.t])], 112⟩]).app
      (pre := [⟨4, 0, false, [.p p.enc], 27⟩, ⟨3, 0, false, [.p k.enc], 25⟩, ⟨4, 0, false, [.agg [.tight [], .p (.bool false), .tight [], .tight []]], 27⟩, ⟨4, 0, false, [.agg [x, .p (.bool false), .tight [], .tight []]], 27⟩]) rfl (y := (⟨d, y.t⟩ : Pa).enc) rfl rfl (by omega) (bytes := 64) (by simp; omega) (by simp; omega)
    simp only [Fr.enc] at hmu
    simp only [Po.enc, Fr.enc, Pa.enc, List.cons_append, List.nil_append] at happ
    rcases hg.form with rfl | ⟨kk, nn, vv, rfl⟩
    all_goals
      simp [f2', f3, f4, f6, f7, h1, hye, Pa.enc, Po.enc, Fr.enc, Trsc_mu, Trsc_fns]
      rw [vc_regionW]
      refine ⟨[], ?_⟩
      simp [f2', f3, f4, f6, f7, h1, hye, hmu, Pa.enc, Po.enc, Fr.enc, getA, getA0, setA, setA0, Trsc_mu, Trsc_fns]
      refine ⟨snoc4, ?_⟩
      rw [vc_regionW]
      refine ⟨[], ?_⟩
      simp [f2', f3, f4, f6, f7, h1, hye, hw, ivar, fillS, -appV, happ, Pa.enc, Po.enc, Fr.enc, getA, getA0, setA, setA0, Trsc_mu, Trsc_fns]
      exact ⟨snoc4', ⟨i + 1, es ++ [⟨d, y.t⟩], _, _, ⟨rfl, rfl⟩, by omega, by simp [hes], by simpa [Pa.enc] using hg', by rw [hsc, Option.map_map]; congr 1; funext m; simp, by omega⟩, by omega⟩
  · have hil : i = p.ps.length := by omega
    rw [hil, List.drop_length] at hsc
    simp only [scaleF, Option.map_some, List.append_nil] at hsc
    rw [hsc] at hr
    rcases mulF_err (ok_const hp) hk with he | he
    case inr =>
      rw [he] at v3 hr
      simp only [show ¬ (4 = 0) by decide, if_false] at hr
      simp only [Fr.enc, zF] at v3
      rcases hg.form with rfl | ⟨kk, nn, vv, rfl⟩
      all_goals
        simp [f2', f3, f4, f6, f7, h1, v3, hr, zPo, zF, Po.enc, Fr.enc, getA, getA0, setA, setA0, Trsc_mu, Trsc_fns]
    obtain ⟨d, hd⟩ : ∃ d, d = (mulF p.c k).1 := ⟨_, rfl⟩
    rw [← hd] at v3 hr
    rw [he] at v3 hr
    rw [if_pos rfl] at hr
    simp only [withC] at hr
    rcases hg with ⟨hne, rfl⟩ | ⟨j, v, rfl, hj⟩
    · have : es = [] := by simpa using hne
      subst this
      simp [f2', f3, f4, f6, f7, h1, v3, hr, Po.enc, Fr.enc, getA, getA0, setA, setA0, Trsc_mu, Trsc_fns]
    · have hjl := (List.getElem?_eq_some_iff.1 hj).1
      have hj2 : ∀ r : Heap, (ex ++ r)[j]? = ex[j]? := fun r => List.getElem?_append_left hjl
      simp [f2', f3, f4, f6, f7, h1, v3, hr, hj, hj2, get4, mapO_pe, take_map, Po.enc, Fr.enc, getA, getA0, setA, setA0, Trsc_mu, Trsc_fns]
end Go.Proofs.YtepfpgnjpkcgmaaGreat

/-
  The reference's sums: sums; what a term is where a sum is 0.
-/
namespace Go.Proofs.YtepfpgnjpkcgmaaGreat
open Go Go.Abs Go.Limbs
variable {base : Prot}
set_option maxRecDepth 20000
attribute [local irreducible] vc
attribute [local simp] pureS touchV freezeL fuel shiftV u64 au
def Trad : Tab := Tab.none.with 99 (pureS (f2 addP))
theorem Trad_ok : TabOk Tryz.prog base Trad := Tab.with_ok Tab.none_ok rAdd_ok
theorem Trad_mu (f : FuncId) (a : List AVal) (H : Heap) : Trad.mu f a H = none := (rfl)
theorem Trad_fns : Trad.fn 99 = (pureS (f2 addP)) := (rfl)
/-- Of sums that are ones, of at most a million parts. -/
def g2v (g : Po → Po → PVal) : List PVal → Option PVal
  | [a, b] => match decPo a, decPo b with | some p, some q => if ((p.few && q.few) && (p.ok && q.ok)) = true then some (g p q) else none | _, _ => none
  | _ => none
theorem g2v_at {g : Po → Po → PVal} {p q : Po} (h : p.wf) (h2 : q.wf) (f1 : p.few = true) (f2 : q.few = true) (o1 : p.ok = true) (o2 : q.ok = true) : g2v g [p.enc, q.enc] = some (g p q) := by simp only [g2v, decPo_enc h, decPo_enc h2, f1, f2, o1, o2, Bool.and_self, if_true]
theorem g2v_some {g : Po → Po → PVal} {args : List PVal} {z : PVal} (h : g2v g args = some z) : ∃ p q : Po, p.wf ∧ q.wf ∧ (p.few = true ∧ q.few = true) ∧ (p.ok = true ∧ q.ok = true) ∧ args = [p.enc, q.enc] ∧ z = g p q := by
  unfold g2v at h
  split at h
  · split at h
    · rename_i p q hp hq
      obtain ⟨rfl, w⟩ := decPo_some hp
      obtain ⟨rfl, w2⟩ := decPo_some hq
      split at h
      · rename_i hf
        rw [Bool.and_eq_true, Bool.and_eq_true, Bool.and_eq_true] at hf
        cases h; exact ⟨p, q, w, w2, hf.1, hf.2, rfl, rfl⟩
      · cases h
    · cases h
  · cases h
theorem snocX {a b c d e : Ent} {ex s : Heap} (k : Nat) (hk : k < ex.length + 1 + 1 + 1 + 1 + 1) : (a :: b :: c :: d :: e :: (ex ++ s))[k]? = (a :: b :: c :: d :: e :: ex)[k]? := by
  rw [show a :: b :: c :: d :: e :: (ex ++ s) = (a :: b :: c :: d :: e :: ex) ++ s from rfl, List.getElem?_append_left (by simpa using hk)]
set_option maxHeartbeats 1000000 in
theorem raddp_ok : FnOk Tryz.prog base 88 (pureS (g2v addPP)) := by
  refine pure_of_vc hmix Trad_ok globNone low88 fun args z hs hf => ?_
  obtain ⟨p, q, wp, wq, ⟨fp, fq⟩, ⟨hp, hq⟩, rfl, rfl⟩ := g2v_some hs
  refine ⟨by simp [lf88], ?_⟩
  have hlp := few_le fp
  have hlq := few_le fq
  have v3 := addP_at wp.2 wq.2
  have hm := maxLen_ge
  unfold addPP pairPo addPo
  rw [hp, hq]
  simp only [Bool.and_self, if_true]
  rcases addF_err (ok_const hp) (ok_const hq) with he | he
  case inr =>
    rw [he] at v3
    simp only [Po.enc, Fr.enc, zF] at v3 ⊢
    simp [lf88, v3, he, fillS, Trad_mu, Trad_fns, zPo, zF]
  rw [he] at v3
  obtain ⟨c, hc⟩ : ∃ c, c = (addF p.c q.c).1 := ⟨_, rfl⟩
  rw [← hc] at v3 ⊢
  simp only [he, if_true]
  obtain ⟨r, hr⟩ : ∃ r : Po × Nat, r = withC c (mergeF p.ps q.ps) := ⟨_, rfl⟩
  rw [← hr]
  simp only [Po.enc, Fr.enc] at v3 ⊢
  simp [lf88, v3, fillS, Trad_mu, Trad_fns]
  simp only [lf88_B0, vc_block]
  refine loop_ind (fun fr H => ∃ (i j : Nat) (es : List Pa) (x : AVal) (s : PVal) (ex : Heap), H = ⟨4, 0, false, [.p p.enc], 27⟩ :: ⟨4, 0, false, [.p q.enc], 27⟩ :: ⟨4, 0, false, [.agg [.tight [], .p (.bool false), .tight [], .tight []]], 27⟩ :: ⟨4, 0, false, [.agg [x, .p (.bool c.s), .p (.lst (c.n.map u64)), .p (.lst (c.d.map u64))]], 27⟩ :: ⟨3, 0, false, [.p s], 25⟩ :: ex ∧
      (∃ y : Fr, s = y.enc) ∧ i ≤ p.ps.length ∧ j ≤ q.ps.length ∧ es.length ≤ i + j ∧ Grown 5 4 112 (es.map Pa.enc) x ex ∧ mergeF p.ps q.ps = (mergeF (p.ps.drop i) (q.ps.drop j)).map (es ++ ·) ∧
      fr 2 = .optr 0 0 0 0 ∧ fr 3 = .optr 1 0 0 0 ∧ fr 4 = .optr 2 0 0 0 ∧ fr 6 = .optr 3 0 0 0 ∧ fr 7 = .optr 4 0 0 0 ∧ fr 9 = .p (.int .i64 i) ∧ fr 10 = .p (.int .i64 j)) (fun fr _ => (p.ps.length - ivar (fr 9)) + (q.ps.length - ivar (fr 10)))
    ⟨0, 0, [], .tight [], _, [], by simp [Po.enc, Fr.enc], ⟨c, rfl⟩, by omega, by omega, by simp, .nil _ _ _ _, by simp, by simp, by simp, by simp, by simp, by simp, by simp, by simp⟩ ?_
  rintro fr H ⟨i, j, es, x, s, ex, rfl, ⟨s0, rfl⟩, hi, hj, hel, hg, hmg, f2', f3, f4, f6, f7, f9, f10⟩
  have hwi : i < p.ps.length → IntKind.i64.wrap ((i : Int) + 1) = ((i + 1 : Nat) : Int) := fun h => wrap_succ (i := i) (by omega)
  have hwj : j < q.ps.length → IntKind.i64.wrap ((j : Int) + 1) = ((j + 1 : Nat) : Int) := fun h => wrap_succ (i := j) (by omega)
  have dropi : ∀ u, p.ps[i]? = some u → p.ps.drop i = u :: p.ps.drop (i + 1) := fun u hu => by
    rw [List.drop_eq_getElem_cons (List.getElem?_eq_some_iff.1 hu).1, getE hu]
  have dropj : ∀ u, q.ps[j]? = some u → q.ps.drop j = u :: q.ps.drop (j + 1) := fun u hu => by
    rw [List.drop_eq_getElem_cons (List.getElem?_eq_some_iff.1 hu).1, getE hu]
  -- one part more
  have more : ∀ (s1 d : Fr) (t : Int) (es2 : List Pa), es2 = es ++ [⟨d, t⟩] → ∃ k' v' ex', appV 4 64 112 x [.p (.agg [.bool d.s, .lst (d.n.map u64), .lst (d.d.map u64), .int .i64 t])] (⟨4, 0, false, [.p p.enc], 27⟩ :: ⟨4, 0, false, [.p q.enc], 27⟩ :: ⟨4, 0, false, [.agg [.tight [], .p (.bool false), .tight [], .tight []]], 27⟩ :: ⟨4, 0, false, [.agg [x, .p (.bool c.s), .p (.lst (c.n.map u64)), .p (.lst (c.d.map u64))]], 27⟩ :: ⟨3, 0, false, [.p s1.enc], 25⟩ :: (ex ++
      [⟨4, 0, false, [.p (.agg [.bool d.s, .lst (d.n.map u64), .lst (d.d.map u64), .int .i64 t])], 112⟩])) =
        some (.own k' 0 (es.length + 1) v', ⟨4, 0, false, [.p p.enc], 27⟩ :: ⟨4, 0, false, [.p q.enc], 27⟩ :: ⟨4, 0, false, [.agg [.tight [], .p (.bool false), .tight [], .tight []]], 27⟩ :: ⟨4, 0, false, [.agg [x, .p (.bool c.s), .p (.lst (c.n.map u64)), .p (.lst (c.d.map u64))]], 27⟩ :: ⟨3, 0, false, [.p s1.enc], 25⟩ :: ex') ∧ Grown 5 4 112 (es2.map Pa.enc) (.own k' 0 (es.length + 1) v') ex' := by
    intro s1 d t es2 h2
    obtain ⟨k', v', ex', happ, hg'⟩ := (hg.more [⟨4, 0, false, [.p (.agg [.bool d.s, .lst (d.n.map u64), .lst (d.d.map u64), .int .i64 t])], 112⟩]).app
      (pre := [⟨4, 0, false, [.p p.enc], 27⟩, ⟨4, 0, false, [.p q.enc], 27⟩, ⟨4, 0, false, [.agg [.tight [], .p (.bool false), .tight [], .tight []]], 27⟩, ⟨4, 0, false, [.agg [x, .p (.bool c.s), .p (.lst (c.n.map u64)), .p (.lst (c.d.map u64))]], 27⟩, ⟨3, 0, false, [.p s1.enc], 25⟩]) rfl (y := (⟨d, t⟩ : Pa).enc) rfl rfl (by omega) (bytes := 64) (by simp; omega) (by simp; omega)
    rw [List.length_map] at happ hg'
    exact ⟨k', v', ex', happ, by subst h2; simpa using hg'⟩
  by_cases hi1 : i < p.ps.length
  · obtain ⟨u, hu⟩ : ∃ u, p.ps[i]? = some u := ⟨_, List.getElem?_eq_getElem hi1⟩
    have hue := getE hu
    have hui := hwi hi1
    have hI : ((p.ps.length : Int) ≤ (i : Int)) = False := eq_false (by omega)
    have hI' : ¬ p.ps.length ≤ i := by omega
    rw [dropi u hu] at hmg
    by_cases hj1 : j < q.ps.length
    · obtain ⟨y, hy⟩ : ∃ y, q.ps[j]? = some y := ⟨_, List.getElem?_eq_getElem hj1⟩
      have hye := getE hy
      have huj := hwj hj1
      have hJ' : ¬ q.ps.length ≤ j := by omega
      rw [dropj y hy] at hmg
      by_cases hlt : u.t < y.t
      · obtain ⟨k', v', ex', happ, hg'⟩ := more s0 u.c u.t _ rfl
        rw [merge_lt hlt, map_app, ← dropj y hy] at hmg
        simp only [Po.enc, Fr.enc] at happ
        rcases hg.form with rfl | ⟨kk, nn, vv, rfl⟩
        all_goals
          simp [f2', f3, f4, f6, f7, f9, f10, hi1, hj1, hI', hJ', hue, hye, hlt, Pa.enc, Po.enc, Fr.enc, Trad_mu, Trad_fns]
          rw [vc_regionW]
          refine ⟨[], ?_⟩
          simp [f2', f3, f4, f6, f7, f9, f10, hi1, hj1, hI', hJ', hue, hye, hui, fillS, -appV, happ, ivar, Pa.enc, Po.enc, Fr.enc, getA, getA0, setA, setA0, Trad_mu, Trad_fns]
          exact ⟨snocX, ⟨i + 1, j, es ++ [u], _, _, _, ⟨rfl, rfl, rfl⟩, ⟨s0, rfl⟩, by omega, by omega, by simp; omega, hg', hmg, by omega, by omega⟩, by omega⟩
      · by_cases hgt : y.t < u.t
        · obtain ⟨k', v', ex', happ, hg'⟩ := more s0 y.c y.t _ rfl
          rw [merge_gt hgt, map_app, ← dropi u hu] at hmg
          simp only [Po.enc, Fr.enc] at happ
          rcases hg.form with rfl | ⟨kk, nn, vv, rfl⟩
          all_goals
            simp [f2', f3, f4, f6, f7, f9, f10, hi1, hj1, hI', hJ', hue, hye, hlt, hgt, Pa.enc, Po.enc, Fr.enc, Trad_mu, Trad_fns]
            rw [vc_regionW]
            refine ⟨[], ?_⟩
            simp [f2', f3, f4, f6, f7, f9, f10, hi1, hj1, hI', hJ', hue, hye, huj, fillS, -appV, happ, ivar, Pa.enc, Po.enc, Fr.enc, getA, getA0, setA, setA0, Trad_mu, Trad_fns]
            exact ⟨snocX, ⟨i, j + 1, es ++ [y], _, _, _, ⟨rfl, rfl, rfl⟩, ⟨s0, rfl⟩, by omega, by omega, by simp; omega, hg', hmg, by omega, by omega⟩, by omega⟩
        · have heq : u.t = y.t := by omega
          have wu : u.c.wf := wp.1 u (List.mem_of_getElem? hu)
          have wy : y.c.wf := wq.1 y (List.mem_of_getElem? hy)
          have ou := ok_part hp (List.mem_of_getElem? hu)
          have oy := ok_part hq (List.mem_of_getElem? hy)
          have w1 := addP_at wu wy
          rw [merge_eq heq] at hmg
          rcases addF_err ou oy with he | he
          case inr =>
            rw [he] at w1 hmg
            simp only [show ¬ (4 = 0) by decide, if_false, Option.map_none] at hmg
            rw [hmg] at hr
            simp only [Fr.enc, zF] at w1
            rcases hg.form with rfl | ⟨kk, nn, vv, rfl⟩
            all_goals
              simp [f2', f3, f4, f6, f7, f9, f10, hi1, hj1, hI', hJ', hue, hye, hlt, hgt, Pa.enc, Po.enc, Fr.enc, Trad_mu, Trad_fns]
              rw [vc_regionW]
              refine ⟨[], ?_⟩
              simp [f2', f3, f4, f6, f7, f9, f10, hi1, hj1, hue, hye, w1, hr, withC, zPo, zF, Pa.enc, Po.enc, Fr.enc, getA, getA0, setA, setA0, Trad_mu, Trad_fns]
          obtain ⟨d, hd⟩ : ∃ d, d = (addF u.c y.c).1 := ⟨_, rfl⟩
          rw [he, ← hd] at w1
          rw [he, ← hd, if_pos rfl] at hmg
          simp only [Fr.enc] at w1
          by_cases dn : d.n = []
          · rcases hg.form with rfl | ⟨kk, nn, vv, rfl⟩
            all_goals
              simp [f2', f3, f4, f6, f7, f9, f10, hi1, hj1, hI', hJ', hue, hye, hlt, hgt, Pa.enc, Po.enc, Fr.enc, Trad_mu, Trad_fns]
              rw [vc_regionW]
              refine ⟨[], ?_⟩
              simp [f2', f3, f4, f6, f7, f9, f10, hi1, hj1, hue, hye, hui, huj, w1, dn, ivar, Pa.enc, Po.enc, Fr.enc, getA, getA0, setA, setA0, Trad_mu, Trad_fns]
              exact ⟨⟨i + 1, j + 1, es, _, _, _, ⟨rfl, rfl, rfl⟩, ⟨d, by simp [dn]⟩, by omega, by omega, by omega, hg, by rw [hmg, Option.map_map]; congr 1; funext z; simp [dn], by omega, by omega⟩, by omega⟩
          · have hdl : 0 < d.n.length := List.length_pos_iff.2 dn
            obtain ⟨k', v', ex', happ, hg'⟩ := more d d u.t _ rfl
            simp only [Po.enc, Fr.enc] at happ
            rcases hg.form with rfl | ⟨kk, nn, vv, rfl⟩
            all_goals
              simp [f2', f3, f4, f6, f7, f9, f10, hi1, hj1, hI', hJ', hue, hye, hlt, hgt, Pa.enc, Po.enc, Fr.enc, Trad_mu, Trad_fns]
              rw [vc_regionW]
              refine ⟨[], ?_⟩
              simp [f2', f3, f4, f6, f7, f9, f10, hi1, hj1, hue, hye, hui, huj, w1, hdl, dn, ivar, Pa.enc, Po.enc, Fr.enc, getA, getA0, setA, setA0, Trad_mu, Trad_fns]
              rw [vc_regionW]
              refine ⟨[], ?_⟩
              simp [f2', f3, f4, f6, f7, f9, f10, hi1, hj1, hue, hye, hui, huj, fillS, -appV, happ, ivar, Pa.enc, Po.enc, Fr.enc, getA, getA0, setA, setA0, Trad_mu, Trad_fns]
              exact ⟨snocX, ⟨i + 1, j + 1, es ++ [⟨d, u.t⟩], _, _, _, ⟨rfl, rfl, rfl⟩, ⟨d, rfl⟩, by omega, by omega, by simp; omega, hg', by rw [hmg, Option.map_map]; congr 1; funext z; simp [dn], by omega, by omega⟩, by omega⟩
    · have hjl : j = q.ps.length := by omega
      have hJ' : q.ps.length ≤ j := by omega
      obtain ⟨k', v', ex', happ, hg'⟩ := more s0 u.c u.t _ rfl
      rw [hjl, List.drop_length, merge_nil2] at hmg
      simp only [Po.enc, Fr.enc] at happ
      rcases hg.form with rfl | ⟨kk, nn, vv, rfl⟩
      all_goals
        simp [f2', f3, f4, f6, f7, f9, f10, hi1, hj1, hI', hJ', hue, Pa.enc, Po.enc, Fr.enc, Trad_mu, Trad_fns]
        rw [vc_regionW]
        refine ⟨[], ?_⟩
        simp [f2', f3, f4, f6, f7, f9, f10, hi1, hj1, hI', hJ', hue, hui, fillS, -appV, happ, ivar, Pa.enc, Po.enc, Fr.enc, getA, getA0, setA, setA0, Trad_mu, Trad_fns]
        exact ⟨snocX, ⟨i + 1, j, es ++ [u], _, _, _, ⟨rfl, rfl, rfl⟩, ⟨s0, rfl⟩, by omega, by omega, by simp; omega, hg', by
          rw [hmg, hjl, List.drop_length]
          cases p.ps.drop (i + 1) with
          | nil => rw [merge_nil]; simp
          | cons a l => rw [merge_nil2]; simp, by omega, by omega⟩, by omega⟩
  · have hil : i = p.ps.length := by omega
    have hI' : p.ps.length ≤ i := by omega
    by_cases hj1 : j < q.ps.length
    · obtain ⟨y, hy⟩ : ∃ y, q.ps[j]? = some y := ⟨_, List.getElem?_eq_getElem hj1⟩
      have hye := getE hy
      have huj := hwj hj1
      have hJ' : ¬ q.ps.length ≤ j := by omega
      rw [dropj y hy, hil, List.drop_length, merge_nil] at hmg
      obtain ⟨k', v', ex', happ, hg'⟩ := more s0 y.c y.t _ rfl
      simp only [Po.enc, Fr.enc] at happ
      rcases hg.form with rfl | ⟨kk, nn, vv, rfl⟩
      all_goals
        simp [f2', f3, f4, f6, f7, f9, f10, hi1, hj1, hI', hJ', hye, Pa.enc, Po.enc, Fr.enc, Trad_mu, Trad_fns]
        rw [vc_regionW]
        refine ⟨[], ?_⟩
        simp [f2', f3, f4, f6, f7, f9, f10, hi1, hj1, hI', hJ', hye, huj, fillS, -appV, happ, ivar, Pa.enc, Po.enc, Fr.enc, getA, getA0, setA, setA0, Trad_mu, Trad_fns]
        exact ⟨snocX, ⟨i, j + 1, es ++ [y], _, _, _, ⟨rfl, rfl, rfl⟩, ⟨s0, rfl⟩, by omega, by omega, by simp; omega, hg', by
          rw [hmg, hil, List.drop_length, merge_nil]; simp, by omega, by omega⟩, by omega⟩
    · have hjl : j = q.ps.length := by omega
      rw [hil, hjl, List.drop_length, List.drop_length, merge_nil] at hmg
      simp only [Option.map_some, List.append_nil] at hmg
      rw [hmg] at hr
      rcases hg with ⟨he, rfl⟩ | ⟨jj, v, rfl, hjj⟩
      · have : es = [] := by simpa using he
        subst this
        simp [f2', f3, f4, f6, f7, f9, f10, hi1, hj1, hr, withC, Po.enc, Fr.enc, Trad_mu, Trad_fns]
      · simp [f2', f3, f4, f6, f7, f9, f10, hi1, hj1, hr, hjj, get5, mapO_pe, take_map, withC, Po.enc, Fr.enc, Trad_mu, Trad_fns]
end Go.Proofs.YtepfpgnjpkcgmaaGreat

/-
  The reference's sums: sums of any; what a term is where a sum is 0; what is told of ids, and values.
-/
namespace Go.Proofs.YtepfpgnjpkcgmaaGreat
open Go Go.Abs Go.Limbs
variable {base : Prot}
set_option maxRecDepth 20000
attribute [local irreducible] vc
attribute [local simp] pureS touchV freezeL fuel shiftV u64 au
def Traa : Tab := (Tab.none.with 31 (pureS (g1 okPo))).with 88 (pureS (g2v addPP))
theorem Traa_ok : TabOk Tryz.prog base Traa := Tab.with_ok (Tab.with_ok Tab.none_ok rpvalid_ok) raddp_ok
theorem Traa_mu (f : FuncId) (a : List AVal) (H : Heap) : Traa.mu f a H = none := (rfl)
theorem Traa_fns : Traa.fn 31 = (pureS (g1 okPo)) ∧ Traa.fn 88 = (pureS (g2v addPP)) := ⟨rfl, rfl⟩
theorem raddP_ok : FnOk Tryz.prog base 18 (pureS (g2s addPP)) := by
  refine pure_of_vc hmix Traa_ok globNone low18 fun args z hs hf => ?_
  obtain ⟨p, q, wp, wq, fp, fq, rfl, rfl⟩ := g2s_some hs
  refine ⟨by simp [lf18], ?_⟩
  have v1 : g1 okPo [p.enc] = some (.bool p.ok) := g1_at wp
  have v2 : g1 okPo [q.enc] = some (.bool q.ok) := g1_at wq
  cases hp : p.ok with
  | false =>
    rw [hp] at v1
    unfold addPP pairPo addPo
    rw [hp]
    simp only [Po.enc, Fr.enc] at v1 ⊢
    simp [lf18, v1, fillS, Traa_mu, Traa_fns, zPo, zF]
  | true =>
  rw [hp] at v1
  cases hq : q.ok with
  | false =>
    rw [hq] at v2
    unfold addPP pairPo addPo
    rw [hp, hq]
    simp only [Po.enc, Fr.enc] at v1 v2 ⊢
    simp [lf18, v1, v2, fillS, Traa_mu, Traa_fns, zPo, zF]
  | true =>
  rw [hq] at v2
  have v3 : g2v addPP [p.enc, q.enc] = some (.tup [(addPo p q).1.enc, .int .i64 (addPo p q).2]) := g2v_at wp wq fp fq hp hq
  unfold addPP pairPo
  obtain ⟨r, hr⟩ : ∃ r, r = addPo p q := ⟨_, rfl⟩
  rw [← hr] at v3 ⊢
  simp only [Po.enc, Fr.enc] at v1 v2 v3 ⊢
  simp [lf18, v1, v2, v3, fillS, Traa_mu, Traa_fns]
def Trso : Tab := (((((Tab.none.with 33 (pureS (gi coefP))).with 31 (pureS (g1 okPo))).with 98 (pureS (giv withoutP))).with 20 (pureS (gks scaleP))).with 82 (pureS sQOf)).with 97 (pureS (f2 quoP))
theorem Trso_ok : TabOk Tryz.prog base Trso := Tab.with_ok (Tab.with_ok (Tab.with_ok (Tab.with_ok (Tab.with_ok (Tab.with_ok Tab.none_ok rcoef_ok) rpvalid_ok) rwithout_ok) rscale_ok) rofR_ok) rQuo_ok
theorem Trso_mu (f : FuncId) (a : List AVal) (H : Heap) : Trso.mu f a H = none := (rfl)
theorem Trso_fns : Trso.fn 33 = (pureS (gi coefP)) ∧ Trso.fn 31 = (pureS (g1 okPo)) ∧ Trso.fn 98 = (pureS (giv withoutP)) ∧ Trso.fn 20 = (pureS (gks scaleP)) ∧ Trso.fn 82 = (pureS sQOf) ∧ Trso.fn 97 = (pureS (f2 quoP)) := ⟨rfl, rfl, rfl, rfl, rfl, rfl⟩
theorem findF_mem {t : Int} : ∀ {l : List Pa} {c : Fr}, findF t l = some c → ∃ x ∈ l, x.c = c ∧ x.t = t
  | x :: r, c, h => by
    unfold findF at h
    split at h
    · cases h; exact ⟨x, by simp, rfl, by assumption⟩
    · obtain ⟨y, hy, h2⟩ := findF_mem h
      exact ⟨y, by simp [hy], h2⟩
theorem rsolve_ok : FnOk Tryz.prog base 22 (pureS (gis solveP)) := by
  refine pure_of_vc hmix Trso_ok globNone low22 fun args z hs hf => ?_
  obtain ⟨p, t, wp, fp, rfl, rfl⟩ := gis_some hs
  refine ⟨by simp [lf22], ?_⟩
  have v1 : gi coefP [p.enc, .int .i64 t] = some (coefPo p t).enc := gi_at wp
  have v2 : g1 okPo [p.enc] = some (.bool p.ok) := g1_at wp
  unfold solveP pairPo
  have hz : ∀ c, (c = coefPo p t) → p.ok = false ∨ findF t p.ps = none → solvePo p t = (zPo, 1) := by
    intro c _ h
    unfold solvePo
    rcases h with h | h
    · rw [h]; cases findF t p.ps <;> rfl
    · rw [h]
  cases hok : p.ok with
  | false =>
    rw [hok] at v2
    rw [hz _ rfl (.inl hok)]
    obtain ⟨c, hc⟩ : ∃ c, c = coefPo p t := ⟨_, rfl⟩
    rw [← hc] at v1
    simp only [Po.enc, Fr.enc] at v1 v2 ⊢
    simp [lf22, v1, v2, zPo, zF, fillS, Trso_mu, Trso_fns]
  | true =>
  rw [hok] at v2
  cases hfi : findF t p.ps with
  | none =>
    rw [hz _ rfl (.inr hfi)]
    have : coefPo p t = ofQ 0 := by unfold coefPo; rw [hfi]
    rw [this, ofQ_zero] at v1
    simp only [Po.enc, Fr.enc, List.map_nil] at v1 v2 ⊢
    simp [lf22, v1, v2, zPo, zF, fillS, Trso_mu, Trso_fns]
  | some c =>
    obtain ⟨x, hx, rfl, hxt⟩ := findF_mem hfi
    have : coefPo p t = x.c := by unfold coefPo; rw [hfi, hok]; rfl
    rw [this] at v1
    have hn := nz_part hok hx
    have hn0 : ((x.c.n.length : Int) == 0) = false := by simp [hn]
    have o1 := ofR (n := -1) (d := 1) (by decide)
    rw [m1_eq] at o1
    have v4 := quoP_at (wf_ofQ (-1)) (wp.1 x hx)
    unfold solvePo
    rw [hfi, hok]
    simp only [if_true]
    rcases quoF_err (ok_ofQ Sm_m1) (ok_part hok hx) hn with he | he
    case inr =>
      rw [he] at v4
      obtain ⟨m1, hm1⟩ : ∃ m1, m1 = ofQ (-1) := ⟨_, rfl⟩
      rw [← hm1] at o1 v4 he ⊢
      simp only [he]
      simp only [Po.enc, Fr.enc, zF] at o1 v1 v2 v4 ⊢
      simp [lf22, v1, v2, hn, hn0, fillS, Trso_mu, Trso_fns]
      rw [vc_regionW]
      refine ⟨[], ?_⟩
      simp [v1, v2, o1, v4, zPo, zF, fillS, Trso_mu, Trso_fns]
      exact keep3
    obtain ⟨k, hk⟩ : ∃ k, k = (quoF (ofQ (-1)) x.c).1 := ⟨_, rfl⟩
    have wk : k.wf := by rw [hk]; exact wf_quoF _ _
    rw [he, ← hk] at v4
    simp only [he, ← hk, if_true]
    have v5 : giv withoutP [p.enc, .int .i64 t] = some (withoutPo p t).enc := giv_at wp fp hok
    have v6 : gks scaleP [(withoutPo p t).enc, k.enc] = some (.tup [(scalePo (withoutPo p t) k).1.enc, .int .i64 (scalePo (withoutPo p t) k).2]) := gks_at (wf_without wp t) wk (few_without fp t)
    obtain ⟨w, hw⟩ : ∃ w, w = withoutPo p t := ⟨_, rfl⟩
    rw [← hw] at v5 v6 ⊢
    obtain ⟨r, hr⟩ : ∃ r, r = scalePo w k := ⟨_, rfl⟩
    rw [← hr] at v6 ⊢
    obtain ⟨m1, hm1⟩ : ∃ m1, m1 = ofQ (-1) := ⟨_, rfl⟩
    rw [← hm1] at o1 v4 he
    simp only [Po.enc, Fr.enc] at o1 v1 v2 v4 v5 v6 ⊢
    simp [lf22, v1, v2, hn, hn0, fillS, Trso_mu, Trso_fns]
    rw [vc_regionW]
    refine ⟨[], ?_⟩
    simp [v1, v2, o1, v4, fillS, Trso_mu, Trso_fns]
    refine ⟨keep3, ?_⟩
    rw [vc_regionW]
    refine ⟨[], ?_⟩
    simp [v1, v2, v5, v6, fillS, Trso_mu, Trso_fns]
/-! ### What is told of ids -/
structure Bd where
  id : Int
  x : Fr
def Bd.enc (b : Bd) : PVal := .agg [.int .i64 b.id, .bool b.x.s, .lst (b.x.n.map u64), .lst (b.x.d.map u64)]
def wfB (l : List Bd) : Prop := ∀ b ∈ l, b.x.wf
def decBd : PVal → Option Bd
  | .agg [.int .i64 t, .bool s, .lst xs, .lst ys] => match decU xs, decU ys with | some l, some m => some ⟨t, ⟨s, l, m⟩⟩ | _, _ => none
  | _ => none
theorem decBd_enc {b : Bd} (h : b.x.wf) : decBd b.enc = some b := by simp only [decBd, Bd.enc, decU_map h.1, decU_map h.2]
theorem decBd_some {v : PVal} {b : Bd} (h : decBd v = some b) : v = b.enc ∧ b.x.wf := by
  unfold decBd at h
  split at h
  · rename_i t s xs ys
    split at h
    · rename_i l m hl hm
      cases h
      obtain ⟨rfl, wl⟩ := decU_some hl
      obtain ⟨rfl, wm⟩ := decU_some hm
      exact ⟨rfl, wl, wm⟩
    · cases h
  · cases h
def decBs : List PVal → Option (List Bd)
  | [] => some []
  | v :: r => match decBd v, decBs r with | some x, some l => some (x :: l) | _, _ => none
theorem decBs_enc : ∀ {l : List Bd}, wfB l → decBs (l.map Bd.enc) = some l
  | [], _ => rfl
  | x :: r, h => by simp only [List.map_cons, decBs, decBd_enc (h x (by simp)), decBs_enc (l := r) (fun y hy => h y (by simp [hy]))]
theorem decBs_some : ∀ {vs : List PVal} {l : List Bd}, decBs vs = some l → vs = l.map Bd.enc ∧ wfB l
  | [], l, h => by cases h; exact ⟨rfl, fun x hx => by cases hx⟩
  | v :: r, l, h => by
    unfold decBs at h
    split at h
    · rename_i x m hx hm
      cases h
      obtain ⟨rfl, wx⟩ := decBd_some hx
      obtain ⟨rfl, wm⟩ := decBs_some hm
      refine ⟨rfl, fun y hy => ?_⟩
      rcases List.mem_cons.1 hy with rfl | hy
      · exact wx
      · exact wm y hy
    · cases h
def lookB : List Bd → Int → Fr
  | [], _ => ofQ 0
  | b :: r, i => if b.id = i then b.x else lookB r i
theorem wf_lookB : ∀ {l : List Bd} {i : Int}, wfB l → (lookB l i).wf
  | [], _, _ => wf_ofQ 0
  | b :: r, i, h => by
    unfold lookB
    split
    · exact h b (by simp)
    · exact wf_lookB fun y hy => h y (by simp [hy])
theorem lookB_drop {i : Int} {l : List Bd} {k : Nat} {b : Bd} (hb : l[k]? = some b) : lookB (l.drop k) i = if b.id = i then b.x else lookB (l.drop (k + 1)) i := by
  have hi := (List.getElem?_eq_some_iff.1 hb).1
  rw [List.drop_eq_getElem_cons hi, getE hb]
  rfl
def sLook : List PVal → Option PVal
  | [.lst vs, .int .i64 i] => match decBs vs with | some l => some (lookB l i).enc | none => none
  | _ => none
theorem sLook_at {l : List Bd} {i : Int} (h : wfB l) : sLook [.lst (l.map Bd.enc), .int .i64 i] = some (lookB l i).enc := by simp only [sLook, decBs_enc h]
def Trlk : Tab := Tab.none.with 91 (pureS sQZero)
theorem Trlk_ok : TabOk Tryz.prog base Trlk := Tab.with_ok Tab.none_ok rzero_ok
theorem Trlk_mu (f : FuncId) (a : List AVal) (H : Heap) : Trlk.mu f a H = none := (rfl)
theorem Trlk_fns : Trlk.fn 91 = (pureS sQZero) := (rfl)
theorem rlook_ok : FnOk Tryz.prog base 25 (pureS sLook) := by
  refine pure_of_vc hmix Trlk_ok globNone low25 fun args z hs hf => ?_
  unfold sLook at hs
  split at hs
  case h_2 => cases hs
  rename_i vs n
  split at hs
  case h_2 => cases hs
  rename_i l hl
  obtain ⟨rfl, wl⟩ := decBs_some hl
  cases hs
  have hlen := (hf (.lst (l.map Bd.enc)) (by simp)).lst.1
  unfold maxLen at hlen
  simp only [List.length_map] at hlen
  refine ⟨by simp [lf25], ?_⟩
  have v2 := sQZero_nil
  obtain ⟨r, hr⟩ : ∃ r, r = lookB l n := ⟨_, rfl⟩
  rw [← hr]
  obtain ⟨z0, hz0⟩ : ∃ z0, z0 = ofQ 0 := ⟨_, rfl⟩
  rw [← hz0] at v2
  simp only [Fr.enc] at v2 ⊢
  simp [lf25]
  simp only [lf25_B0, vc_block]
  refine loop_ind (fun fr H => ∃ i : Nat, H = [⟨3, 0, false, [.agg [.p (.bool false), .tight [], .tight []]], 25⟩] ∧ i ≤ l.length ∧ r = lookB (l.drop i) n ∧ fr 0 = .p (.lst (l.map Bd.enc)) ∧ fr 1 = .p (.int .i64 n) ∧ fr 4 = .optr 0 0 0 0 ∧ fr 5 = .p (.int .i64 i)) (fun fr _ => l.length - ivar (fr 5))
    ⟨0, by simp, by omega, hr, by simp, by simp, by simp, by simp⟩ ?_
  rintro fr H ⟨i, rfl, hi, hri, f0, f1', f4', f5⟩
  by_cases h1 : i < l.length
  · obtain ⟨b, hb⟩ : ∃ b, l[i]? = some b := ⟨_, List.getElem?_eq_getElem h1⟩
    have hbe := getE hb
    have hw := wrap_succ (i := i) (by omega)
    rw [lookB_drop hb] at hri
    by_cases ht : b.id = n
    · rw [if_pos ht] at hri
      simp [f0, f1', f4', f5, h1, hbe, ht, hri, Bd.enc, Trlk_mu, Trlk_fns]
    · rw [if_neg ht] at hri
      have ht2 : (b.id == n) = false := by simp [ht]
      simp [f0, f1', f4', f5, h1, hbe, ht2, hw, ivar, Bd.enc, Trlk_mu, Trlk_fns]
      exact ⟨⟨i + 1, by omega, hri, by omega⟩, by omega⟩
  · have hil : i = l.length := by omega
    rw [hil, List.drop_length] at hri
    have : r = z0 := by rw [hri, hz0]; rfl
    rw [this]
    simp [f0, f1', f4', f5, h1, v2, Trlk_mu, Trlk_fns]
end Go.Proofs.YtepfpgnjpkcgmaaGreat

/-
  law8: the reference's values; what is told of ids.
-/
namespace Go.Proofs.YtepfpgnjpkcgmaaGreat
open Go Go.Abs Go.Limbs
variable {base : Prot}
set_option maxRecDepth 20000
attribute [local irreducible] vc
attribute [local simp] pureS touchV freezeL fuel shiftV u64 au
def sRVal : List PVal → Option PVal
  | [a, .lst vs] => match decPo a, decBs vs with | some p, some l => if p.few = true then some (pairF (valuePo (lookB l) p)) else none | _, _ => none
  | _ => none
theorem sRVal_at {p : Po} {l : List Bd} (wp : p.wf) (fp : p.few = true) (wl : wfB l) : sRVal [p.enc, .lst (l.map Bd.enc)] = some (pairF (valuePo (lookB l) p)) := by simp only [sRVal, decPo_enc wp, decBs_enc wl, fp, if_true]
def Trva : Tab := ((((Tab.none.with 31 (pureS (g1 okPo))).with 25 (pureS sLook)).with 50 (pureS (f1 boolF))).with 92 (pureS (f2 mulP))).with 99 (pureS (f2 addP))
theorem Trva_ok : TabOk Tryz.prog base Trva := Tab.with_ok (Tab.with_ok (Tab.with_ok (Tab.with_ok (Tab.with_ok Tab.none_ok rpvalid_ok) rlook_ok) rvalidR_ok) rMul_ok) rAdd_ok
theorem Trva_mu (f : FuncId) (a : List AVal) (H : Heap) : Trva.mu f a H = none := (rfl)
theorem Trva_fns : Trva.fn 31 = (pureS (g1 okPo)) ∧ Trva.fn 25 = (pureS sLook) ∧ Trva.fn 50 = (pureS (f1 boolF)) ∧ Trva.fn 92 = (pureS (f2 mulP)) ∧ Trva.fn 99 = (pureS (f2 addP)) := ⟨rfl, rfl, rfl, rfl, rfl⟩
set_option maxHeartbeats 1000000 in
theorem rvalue_ok : FnOk Tryz.prog base 27 (pureS sRVal) := by
  refine pure_of_vc hmix Trva_ok globNone low27 fun args z hs hf => ?_
  unfold sRVal at hs
  split at hs
  case h_2 => cases hs
  rename_i a vs
  split at hs
  case h_2 => cases hs
  rename_i p l hpd hl
  obtain ⟨rfl, wp⟩ := decPo_some hpd
  obtain ⟨rfl, wl⟩ := decBs_some hl
  split at hs
  case isFalse => cases hs
  rename_i fp
  cases hs
  refine ⟨by simp [lf27], ?_⟩
  have hlen := few_le fp
  have v1 : g1 okPo [p.enc] = some (.bool p.ok) := g1_at wp
  unfold pairF valuePo
  cases hp : p.ok with
  | false =>
    rw [hp] at v1
    simp only [Po.enc, Fr.enc] at v1 ⊢
    simp [lf27, v1, fillS, zF, Trva_mu, Trva_fns]
  | true =>
  rw [hp] at v1
  simp only [Bool.true_and]
  obtain ⟨lk, hlk⟩ : ∃ lk, lk = lookB l := ⟨_, rfl⟩
  have wk : ∀ i, (lk i).wf := fun i => by rw [hlk]; exact wf_lookB wl
  have vl : ∀ i, sLook [.lst (l.map Bd.enc), .int .i64 i] = some (lk i).enc := fun i => by rw [hlk]; exact sLook_at wl
  rw [← hlk]
  obtain ⟨r, hr⟩ : ∃ r, r = (if (p.ps.all fun x => (lk x.t).ok) = true then sumF lk p.ps p.c else (zF, 1)) := ⟨_, rfl⟩
  rw [← hr]
  simp only [Po.enc, Fr.enc] at v1 ⊢
  simp [lf27, v1, fillS, Trva_mu, Trva_fns]
  simp only [lf27_B0, vc_block]
  refine loop_ind (fun fr H => ∃ i : Nat, H = [⟨4, 0, false, [.p p.enc], 27⟩, ⟨3, 0, false, [.agg [.p (.bool false), .tight [], .tight []]], 25⟩] ∧
      i ≤ p.ps.length ∧ (∀ x ∈ p.ps.take i, (lk x.t).ok = true) ∧ fr 1 = .p (.lst (l.map Bd.enc)) ∧ fr 2 = .optr 0 0 0 0 ∧ fr 4 = .optr 1 0 0 0 ∧ fr 6 = .p (.int .i64 i)) (fun fr _ => p.ps.length - ivar (fr 6))
    ⟨0, by simp [Po.enc, Fr.enc], by omega, by simp, by simp, by simp, by simp, by simp⟩ ?_
  rintro fr H ⟨i, rfl, hi, hok, f1', f2', f4', f6⟩
  by_cases h1 : i < p.ps.length
  · obtain ⟨y, hy⟩ : ∃ y, p.ps[i]? = some y := ⟨_, List.getElem?_eq_getElem h1⟩
    have hye := getE hy
    have hv := vF (wk y.t)
    have hw := wrap_succ (i := i) (by omega)
    have htk := take_succ_get hy
    have vy := vl y.t
    obtain ⟨d, hd⟩ : ∃ d, d = lk y.t := ⟨_, rfl⟩
    rw [← hd] at hv vy
    cases hdo : d.ok with
    | false =>
      rw [hdo] at hv
      have : (p.ps.all fun x => (lk x.t).ok) = false := by
        cases h : p.ps.all fun x => (lk x.t).ok with
        | false => rfl
        | true =>
          have := List.all_eq_true.1 h y (List.mem_of_getElem? hy)
          rw [← hd, hdo] at this
          cases this
      rw [this] at hr
      simp only [Fr.enc] at hv vy
      simp [f1', f2', f4', f6, h1, hye, Pa.enc, Po.enc, Fr.enc, hv, vy, hr, zF, Trva_mu, Trva_fns]
    | true =>
      rw [hdo] at hv
      simp only [Fr.enc] at hv vy
      simp [f1', f2', f4', f6, h1, hye, Pa.enc, Po.enc, Fr.enc, hv, vy, hw, ivar, Trva_mu, Trva_fns]
      exact ⟨⟨i + 1, by omega, fun x hx => by
        rw [htk] at hx
        rcases List.mem_append.1 hx with hx | hx
        · exact hok x hx
        · rw [List.mem_singleton] at hx; subst hx; rw [← hd]; exact hdo, by omega⟩, by omega⟩
  · have hil : i = p.ps.length := by omega
    rw [hil, List.take_length] at hok
    have hall : (p.ps.all fun x => (lk x.t).ok) = true := List.all_eq_true.2 hok
    rw [hall, if_pos rfl] at hr
    simp [f1', f2', f4', f6, h1, Po.enc, Fr.enc, fillS, Trva_mu, Trva_fns]
    simp only [lf27_B1, vc_block]
    refine loop_ind (fun fr H => ∃ (i : Nat) (s : Fr) (ex : Heap), H = ⟨4, 0, false, [.p p.enc], 27⟩ :: ⟨3, 0, false, [.agg [.p (.bool false), .tight [], .tight []]], 25⟩ :: ⟨3, 0, false, [.p s.enc], 25⟩ :: ex ∧
      i ≤ p.ps.length ∧ s.wf ∧ s.ok = true ∧ r = sumF lk (p.ps.drop i) s ∧
      fr 1 = .p (.lst (l.map Bd.enc)) ∧ fr 2 = .optr 0 0 0 0 ∧ fr 4 = .optr 1 0 0 0 ∧ fr 7 = .optr 2 0 0 0 ∧ fr 8 = .p (.int .i64 i)) (fun fr _ => p.ps.length - ivar (fr 8))
      ⟨0, p.c, [], by simp [Po.enc, Fr.enc], by omega, wp.2, ok_const hp, hr, by simp [f1'], by simp [f2'], by simp [f4'], by simp, by simp⟩ ?_
    clear f1' f2' f4' f6
    rintro fr H ⟨i, s, ex, rfl, hi, ws, os, hrs, f1', f2', f4', f7, f8⟩
    by_cases h1 : i < p.ps.length
    · obtain ⟨y, hy⟩ : ∃ y, p.ps[i]? = some y := ⟨_, List.getElem?_eq_getElem h1⟩
      have hye := getE hy
      have wy : y.c.wf := wp.1 y (List.mem_of_getElem? hy)
      have oy := ok_part hp (List.mem_of_getElem? hy)
      have ok2 : (lk y.t).ok = true := hok y (List.mem_of_getElem? hy)
      have hw := wrap_succ (i := i) (by omega)
      have m1 := mulP_at wy (wk y.t)
      have vy := vl y.t
      rw [sumF_drop hy] at hrs
      obtain ⟨e, he0⟩ : ∃ e, e = lk y.t := ⟨_, rfl⟩
      rw [← he0] at m1 ok2 hrs vy
      rcases mulF_err oy ok2 with he | he
      case inr =>
        rw [he] at m1 hrs
        simp only [show ¬ (4 = 0) by decide, if_false] at hrs
        simp only [Fr.enc, zF] at m1 vy
        simp [f1', f2', f4', f7, f8, h1, hye, Pa.enc, Po.enc, Fr.enc, Trva_mu, Trva_fns]
        rw [vc_regionW]
        refine ⟨[], ?_⟩
        simp [f1', f2', f4', f7, f8, h1, hye, vy, m1, hrs, zF, Pa.enc, Po.enc, Fr.enc, getA, getA0, setA, setA0, Trva_mu, Trva_fns]
        exact snoc3
      obtain ⟨d, hd⟩ : ∃ d, d = (mulF y.c e).1 := ⟨_, rfl⟩
      have wd : d.wf := by rw [hd]; exact wf_mulF _ _
      have od : d.ok = true := by rw [hd]; exact ok_mulF he
      rw [he, ← hd] at m1
      rw [he, ← hd, if_pos rfl] at hrs
      have m2 := addP_at ws wd
      rcases addF_err os od with he2 | he2
      case inr =>
        rw [he2] at m2 hrs
        simp only [show ¬ (4 = 0) by decide, if_false] at hrs
        simp only [Fr.enc, zF] at m1 m2 vy
        simp [f1', f2', f4', f7, f8, h1, hye, Pa.enc, Po.enc, Fr.enc, Trva_mu, Trva_fns]
        rw [vc_regionW]
        refine ⟨[], ?_⟩
        simp [f1', f2', f4', f7, f8, h1, hye, vy, m1, m2, hrs, zF, Pa.enc, Po.enc, Fr.enc, getA, getA0, setA, setA0, Trva_mu, Trva_fns]
        exact snoc3
      obtain ⟨u, hu⟩ : ∃ u, u = (addF s d).1 := ⟨_, rfl⟩
      have wu : u.wf := by rw [hu]; exact wf_addF _ _
      have ou : u.ok = true := by rw [hu]; exact ok_addF he2
      rw [he2, ← hu] at m2
      rw [he2, ← hu, if_pos rfl] at hrs
      simp only [Fr.enc] at m1 m2 vy
      simp [f1', f2', f4', f7, f8, h1, hye, Pa.enc, Po.enc, Fr.enc, Trva_mu, Trva_fns]
      rw [vc_regionW]
      refine ⟨[], ?_⟩
      simp [f1', f2', f4', f7, f8, h1, hye, vy, m1, m2, hw, ivar, zF, Pa.enc, Po.enc, Fr.enc, getA, getA0, setA, setA0, Trva_mu, Trva_fns]
      exact ⟨snoc3, ⟨i + 1, u, ⟨rfl, rfl, rfl⟩, by omega, wu, ou, hrs, by omega⟩, by omega⟩
    · have hil : i = p.ps.length := by omega
      rw [hil, List.drop_length] at hrs
      simp only [sumF] at hrs
      simp [f2', f4', f7, f8, h1, hrs, Po.enc, Fr.enc]
end Go.Proofs.YtepfpgnjpkcgmaaGreat
