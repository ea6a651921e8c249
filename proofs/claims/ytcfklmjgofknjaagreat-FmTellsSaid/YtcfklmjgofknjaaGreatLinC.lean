/-
  What linear's functions of what is one, the same, copies, places and single parts compute. No conditions beyond the lemmas' own hypotheses.
-/
import Derived.Test.YtcfklmjgofknjaaGreatLinB
import Derived.Test.YtcfklmjgofknjaaGreatRatM
import Derived.Test.YtcfklmjgofknjaaGreatNatTA
import Derived.Test.YtcfklmjgofknjaaGreatNatD
set_option linter.unusedSimpArgs false
set_option linter.unnecessarySimpa false
set_option linter.unusedVariables false
set_option linter.constructorNameAsVariable false

/-
 linear's Valid, the reference's, and the guards.
-/
namespace Go.Proofs.YtcfklmjgofknjaaGreat
open Go Go.Abs Go.Limbs
variable {base : Prot}
set_option maxRecDepth 20000
attribute [local irreducible] vc
attribute [local simp] pureS touchV freezeL fuel shiftV u64 au
def fewF1 (x : Fr) : Bool := decide (x.n.length ≤ 8) && decide (x.d.length ≤ 8)
def fewP1 (x : Fr) : PVal := .bool (fewF1 x)
theorem arat_ok : FnOk Tryz.prog base 36 (pureS (f1 fewP1)) := by
 refine pure_of_vc hmix Tab.none_ok globNone low36 fun args z hs hf => ?_
 obtain ⟨x, wx, rfl, rfl⟩ := f1_some hs
 refine ⟨by simp [lf36], ?_⟩
 unfold fewP1 fewF1
 simp only [Fr.enc]
 by_cases hn : x.n.length ≤ 8
 ·have hnI : (x.n.length : Int) ≤ 8 := by omega
  simp [lf36, hn, hnI, fillS]
  omega
 ·have hnI : ¬ (x.n.length : Int) ≤ 8 := by omega
  simp [lf36, hn, hnI, fillS]
def fewPo (p : Po) : Bool := (p.ps.take 12).all (fun x => fewF1 x.c) && decide (p.ps.length ≤ 10) && fewF1 p.c
def fewPoP (p : Po) : PVal := .bool (fewPo p)
def Tap : Tab := Tab.none.with 36 (pureS (f1 fewP1))
theorem Tap_ok : TabOk Tryz.prog base Tap := Tab.with_ok Tab.none_ok arat_ok
theorem Tap_mu (f : FuncId) (a : List AVal) (H : Heap) : Tap.mu f a H = none := (rfl)
theorem Tap_fn : Tap.fn 36 = pureS (f1 fewP1) := (rfl)
theorem apoly_ok : FnOk Tryz.prog base 35 (pureS (g1 fewPoP)) := by
 refine pure_of_vc hmix Tap_ok globNone low35 fun args z hs hf => ?_
 obtain ⟨p, wp, rfl, rfl⟩ := g1_some hs
 refine ⟨by simp [lf35], ?_⟩
 have hfit := hf _ (List.mem_singleton.2 rfl)
 simp only [Po.enc] at hfit ⊢
 unfold fewPoP
 have hc : f1 fewP1 [p.c.enc] = some (.bool (fewF1 p.c)) := f1_at wp.2
 simp only [Fr.enc] at hc
 simp [lf35, fillS]
 simp only [lf35_B0, vc_block]
 obtain ⟨bx, hbx⟩ : ∃ b : Ent, b = ⟨4, 0, false, [.p p.enc], 27⟩ := ⟨_, rfl⟩
 simp only [Po.enc] at hbx
 rw [← hbx]
 refine loop_ind (fun fr H => ∃ i : Nat, H = [bx] ∧ i ≤ p.ps.length ∧ i ≤ 12 ∧ (p.ps.take i).all (fun x => fewF1 x.c) = true ∧ fr 1 = .optr 0 0 0 0 ∧ fr 3 = .p (.int .i64 i)) (fun fr _ => 12 - ivar (fr 3)) ⟨0, rfl, by omega, by omega, by simp, by simp, by simp⟩ ?_
 rintro fr H ⟨i, rfl, hi, hi12, hall, f1', f3⟩
 by_cases hlt : i < p.ps.length ∧ i < 12
 ·obtain ⟨h1, h2⟩ := hlt
  have h2I : (i : Int) < 12 := by omega
  obtain ⟨x, hx⟩ : ∃ x, p.ps[i]? = some x := ⟨_, List.getElem?_eq_getElem h1⟩
  have wx : x.c.wf := wp.1 x (List.mem_of_getElem? hx)
  have hcx : f1 fewP1 [x.c.enc] = some (.bool (fewF1 x.c)) := f1_at wx
  simp only [Fr.enc] at hcx
  have hxe := getE hx
  have hw := wrap_succ (i := i) (by omega)
  have htk := take_succ_get hx
  cases hf1 : fewF1 x.c with
  | false =>
   rw [hf1] at hcx
   have hfe : fewPo p = false := by
    have : (p.ps.take 12).all (fun x => fewF1 x.c) = false := by
     cases h : (p.ps.take 12).all (fun x => fewF1 x.c) with
     | false => rfl
     | true =>
      have := List.all_eq_true.1 h x (List.mem_of_getElem? (show (p.ps.take 12)[i]? = some x by rw [List.getElem?_take, if_pos h2]; exact hx))
      simp only [hf1] at this
      cases this
    unfold fewPo
    rw [this]
    rfl
   simp [hbx, f1', f3, h1, h2, h2I, hxe, Pa.enc, hcx, hfe, binS, Tap_mu, Tap_fn]
  | true =>
   rw [hf1] at hcx
   have hall2 : (p.ps.take (i + 1)).all (fun x => fewF1 x.c) = true := by rw [htk, List.all_append, hall]; simp [hf1]
   simp [hbx, f1', f3, h1, h2, h2I, hxe, Pa.enc, hcx, hw, binS, ivar, Tap_mu, Tap_fn]
   exact ⟨⟨i + 1, by omega, by omega, List.all_eq_true.1 hall2, by omega⟩, by omega⟩
 ·have hall12 : (p.ps.take 12).all (fun x => fewF1 x.c) = true := by
   by_cases h : i = 12
   ·rw [← h]; exact hall
   ·have : i = p.ps.length := by omega
    rw [List.take_of_length_le (by omega), ← hall, this, List.take_of_length_le (Nat.le_refl _)]
  have hfe : fewPo p = (decide (p.ps.length ≤ 10) && fewF1 p.c) := by unfold fewPo; rw [hall12]; rfl
  rw [hfe]
  by_cases h1 : i < p.ps.length
  ·have h2 : ¬ i < 12 := fun h => hlt ⟨h1, h⟩
   have h2I : ¬ (i : Int) < 12 := by omega
   have h3 : ¬ p.ps.length ≤ 10 := by omega
   have h3I : ¬ (p.ps.length : Int) ≤ 10 := by omega
   simp [hbx, f1', f3, h1, h2, h2I, h3, h3I, binS, Tap_mu, Tap_fn]
  ·by_cases h3 : p.ps.length ≤ 10
   ·have h3I : (p.ps.length : Int) ≤ 10 := by omega
    simp [hbx, f1', f3, h1, h3, h3I, hc, binS, Tap_mu, Tap_fn]
   ·have h3I : ¬ (p.ps.length : Int) ≤ 10 := by omega
    simp [hbx, f1', f3, h1, h3, h3I, hc, binS, Tap_mu, Tap_fn]
def Tlv : Tab := (Tab.none.with 85 (pureS (f1 boolF))).with 56 (pureS (f1 signP))
theorem Tlv_ok : TabOk Tryz.prog base Tlv := Tab.with_ok (Tab.with_ok Tab.none_ok qvalid_ok) qsign_ok
theorem Tlv_mu (f : FuncId) (a : List AVal) (H : Heap) : Tlv.mu f a H = none := (rfl)
theorem Tlv_fns : Tlv.fn 85 = pureS (f1 boolF) ∧ Tlv.fn 56 = pureS (f1 signP) := ⟨rfl, rfl⟩
def lastT (l : List Pa) (i : Nat) : Int := match i with | 0 => -1 | j + 1 => match l[j]? with | some x => x.t | none => -1
theorem okParts_at {l : List Pa} {i : Nat} {x : Pa} (h : l[i]? = some x) : okParts (lastT l i) (l.drop i) = (decide (lastT l i < x.t) && x.c.ok && !decide (x.c.n = []) && okParts (lastT l (i + 1)) (l.drop (i + 1))) := by
 have hi := (List.getElem?_eq_some_iff.1 h).1
 rw [List.drop_eq_getElem_cons hi, getE h, okParts]
 have : lastT l (i + 1) = x.t := by simp only [lastT, h]
 rw [this]
theorem lvalid_ok : FnOk Tryz.prog base 84 (pureS (g1 okPo)) := by
 refine pure_of_vc hmix Tlv_ok globNone low84 fun args z hs hf => ?_
 obtain ⟨p, wp, rfl, rfl⟩ := g1_some hs
 refine ⟨by simp [lf84], ?_⟩
 unfold okPo
 have hc : f1 boolF [p.c.enc] = some (.bool p.c.ok) := vF wp.2
 simp only [Po.enc, Fr.enc] at hc ⊢
 have hlen : p.ps.length ≤ 9223372036854775807 := by
  have h1 := (Fits.agg (hf _ (List.mem_singleton.2 rfl))) _ (List.mem_cons_self ..)
  have h2 := h1.lst.1
  rw [List.length_map] at h2
  exact Nat.le_trans h2 (by decide)
 simp [lf84, fillS]
 simp only [lf84_B0, vc_block]
 obtain ⟨bx, hbx⟩ : ∃ b : Ent, b = ⟨4, 0, false, [.p p.enc], 27⟩ := ⟨_, rfl⟩
 simp only [Po.enc] at hbx
 rw [← hbx]
 refine loop_ind (fun fr H => ∃ i : Nat, (∃ ex : Heap, H = bx :: ex) ∧ i ≤ p.ps.length ∧ okParts (-1) p.ps = okParts (lastT p.ps i) (p.ps.drop i) ∧ -1 ≤ lastT p.ps i ∧ fr 1 = .optr 0 0 0 0 ∧ fr 6 = .p (.lst (p.ps.map Pa.enc)) ∧ fr 7 = .p (.int .i64 p.ps.length) ∧ fr 8 = .p (.int .i64 i)) (fun fr _ => p.ps.length - ivar (fr 8))
  ⟨0, ⟨[], rfl⟩, by omega, rfl, Int.le_refl _, by simp, by simp, by simp, by simp⟩ ?_
 rintro fr H ⟨i, ⟨ex, rfl⟩, hi, hok, hge, f1', f6, f7, f8⟩
 by_cases h1 : i < p.ps.length
 ·obtain ⟨x, hx⟩ : ∃ x, p.ps[i]? = some x := ⟨_, List.getElem?_eq_getElem h1⟩
  have wx : x.c.wf := wp.1 x (List.mem_of_getElem? hx)
  have hv : f1 boolF [x.c.enc] = some (.bool x.c.ok) := vF wx
  have hsg : f1 signP [x.c.enc] = some (.int .i64 (signF x.c)) := f1_at wx
  simp only [Fr.enc] at hv hsg
  have hxe := getE hx
  have hw := wrap_succ (i := i) (by omega)
  rw [okParts_at hx] at hok
  have hlx : lastT p.ps (i + 1) = x.t := by simp only [lastT, hx]
  have bad : (decide (lastT p.ps i < x.t) && x.c.ok && !decide (x.c.n = [])) = false → p.ok = false := fun h => by
   unfold Po.ok
   rw [hok, h]
   rfl
  have good : (decide (lastT p.ps i < x.t) && x.c.ok && !decide (x.c.n = [])) = true → okParts (-1) p.ps = okParts (lastT p.ps (i + 1)) (p.ps.drop (i + 1)) := fun h => by rw [hok, h]; rfl
  have h0 : i = 0 ∨ ∃ j y, i = j + 1 ∧ p.ps[j]? = some y ∧ lastT p.ps i = y.t := by
   cases i with
   | zero => exact .inl rfl
   | succ j =>
    obtain ⟨y, hy⟩ : ∃ y, p.ps[j]? = some y := ⟨_, List.getElem?_eq_getElem (by omega)⟩
    exact .inr ⟨j, y, rfl, hy, by simp only [lastT, hy]⟩
  by_cases ha : x.t < 0
  ·have hb := bad (by rw [decide_eq_false (show ¬ lastT p.ps i < x.t by omega)]; rfl)
   rw [hb]
   simp [hbx, f1', f6, f7, f8, h1, hxe, Pa.enc, ha, binS, fillS, Tlv_mu, Tlv_fns]
  ·rcases h0 with rfl | ⟨j, y, rfl, hy, hlt⟩
   ·have hlt : lastT p.ps 0 < x.t := by show (-1 : Int) < x.t; omega
    cases hvk : x.c.ok with
    | false =>
     rw [hvk] at hv
     rw [bad (by rw [hvk]; simp)]
     simp [hbx, f1', f6, f7, f8, h1, hxe, Pa.enc, ha, hv, binS, fillS, Tlv_mu, Tlv_fns]
    | true =>
     have hsn := sign_nil hvk
     rw [hvk] at hv
     by_cases hn : x.c.n = []
     ·rw [decide_eq_true hn] at hsn
      rw [bad (by rw [decide_eq_true hn]; simp)]
      simp [hbx, f1', f6, f7, f8, h1, hxe, Pa.enc, ha, hv, hsg, hsn, binS, fillS, Tlv_mu, Tlv_fns]
     ·rw [decide_eq_false hn] at hsn
      have hg := good (by rw [decide_eq_true hlt, hvk, decide_eq_false hn]; rfl)
      simp [hbx, f1', f6, f7, f8, h1, hxe, Pa.enc, ha, hv, hsg, hsn, hw, binS, fillS, ivar, Tlv_mu, Tlv_fns]
      have w1 : IntKind.i64.wrap 1 = 1 := by decide
      rw [w1]
      exact ⟨⟨1, by omega, hg, by rw [hlx]; omega, rfl⟩, by simp; omega⟩
   ·have hj := IntWalk.i64_in (((j + 1 : Nat) : Int) - 1) (by omega)
    have hj2 : ((j + 1 : Nat) : Int) - 1 = (j : Int) := by omega
    have hj1 : j < p.ps.length := by omega
    have hye := getE hy
    have hp0 : (0 : Int) < ((j + 1 : Nat) : Int) := by omega
    have hp0' : (0 : Int) < (j : Int) + 1 := by omega
    have hwj2 : IntKind.i64.wrap (j : Int) = (j : Int) := IntWalk.i64_in _ (by omega)
    have hp2 : (0 : Int) ≤ (j : Int) + 1 := by omega
    have hp3 : ((j : Int) + 1).toNat = j + 1 := by omega
    have h1I : (j : Int) + 1 < (p.ps.length : Int) := by omega
    have hwj : IntKind.i64.wrap ((j : Int) + 1 - 1) = (j : Int) := by rw [IntWalk.i64_in _ (by omega)]; omega
    have hw' : IntKind.i64.wrap ((j : Int) + 1 + 1) = ((j + 2 : Nat) : Int) := by rw [IntWalk.i64_in _ (by omega)]; omega
    by_cases hle : x.t ≤ y.t
    ·rw [bad (by rw [decide_eq_false (show ¬ lastT p.ps (j + 1) < x.t by omega)]; rfl)]
     simp [hbx, f1', f6, f7, f8, h1, hxe, hye, hj1, h1I, hp2, hp3, hwj2, hy, hp0, hp0', hwj, Pa.enc, ha, hle, binS, fillS, Tlv_mu, Tlv_fns]
    ·have hltx : lastT p.ps (j + 1) < x.t := by omega
     cases hvk : x.c.ok with
     | false =>
      rw [hvk] at hv
      rw [bad (by rw [hvk]; simp)]
      simp [hbx, f1', f6, f7, f8, h1, hxe, hye, hj1, h1I, hp2, hp3, hwj2, hy, hp0, hp0', hwj, Pa.enc, ha, hle, hv, binS, fillS, Tlv_mu, Tlv_fns]
     | true =>
      have hsn := sign_nil hvk
      rw [hvk] at hv
      by_cases hn : x.c.n = []
      ·rw [decide_eq_true hn] at hsn
       rw [bad (by rw [decide_eq_true hn]; simp)]
       simp [hbx, f1', f6, f7, f8, h1, hxe, hye, hj1, h1I, hp2, hp3, hwj2, hy, hp0, hp0', hwj, Pa.enc, ha, hle, hv, hsg, hsn, binS, fillS, Tlv_mu, Tlv_fns]
      ·rw [decide_eq_false hn] at hsn
       have hg := good (by rw [decide_eq_true hltx, hvk, decide_eq_false hn]; rfl)
       simp [hbx, f1', f6, f7, f8, h1, hxe, hye, hj1, h1I, hp2, hp3, hwj2, hy, hp0, hp0', hwj, hw', Pa.enc, ha, hle, hv, hsg, hsn, binS, fillS, ivar, Tlv_mu, Tlv_fns]
       exact ⟨⟨j + 1 + 1, by omega, hg, by rw [hlx]; omega, by omega⟩, by omega⟩
 ·have hil : i = p.ps.length := by omega
  subst hil
  rw [List.drop_length] at hok
  have : p.ok = p.c.ok := by unfold Po.ok; rw [hok]; rfl
  rw [this]
  simp [hbx, f1', f6, f7, f8, hc, Tlv_mu, Tlv_fns]
end Go.Proofs.YtcfklmjgofknjaaGreat

/-
 linear: copies of fractions; the same; where a sum has a term; a term's number.
-/
namespace Go.Proofs.YtcfklmjgofknjaaGreat
open Go Go.Abs Go.Limbs
variable {base : Prot}
set_option maxRecDepth 20000
attribute [local irreducible] vc
attribute [local simp] pureS touchV freezeL fuel shiftV u64 au
def Fr.small (x : Fr) : Bool := decide (x.n.length ≤ 1000000) && decide (x.d.length ≤ 1000000)
def sOwn : List PVal → Option PVal
 | [a] => match decF a with | some x => if x.small then some x.enc else none | none => none
 | _ => none
theorem sOwn_at {x : Fr} (h : x.wf) (hs : x.small = true) : sOwn [x.enc] = some x.enc := by simp only [sOwn, decF_enc h, hs, if_true]
theorem sClone_at {l : List Nat} (h : Wf l) (hs : l.length ≤ 1000000) : sClone [.lst (l.map u64)] = some (.lst (l.map u64)) := by
 simp only [sClone, decU_map h, if_pos hs]; rfl
theorem small_ok {x : Fr} (h : x.ok = true) : x.small = true := by
 obtain ⟨q, hq, rfl⟩ := Fr.ok_of h
 unfold Fr.small ofQ
 have h1 : (limbs q.num.natAbs).length ≤ 64 := hq.1
 have h2 : (limbs q.den).length ≤ 64 := hq.2
 simp only [Bool.and_eq_true, decide_eq_true_eq]
 omega
theorem sOwn_ok {x : Fr} (h : x.wf) (hs : x.ok = true) : sOwn [x.enc] = some x.enc := sOwn_at h (small_ok hs)
def Tow : Tab := Tab.none.with 87 (pureS sClone)
theorem Tow_ok : TabOk Tryz.prog base Tow := Tab.with_ok Tab.none_ok clone_ok
theorem Tow_mu (f : FuncId) (a : List AVal) (H : Heap) : Tow.mu f a H = none := (rfl)
theorem Tow_fns : Tow.fn 87 = (pureS sClone) := (rfl)
theorem lown_ok : FnOk Tryz.prog base 89 (pureS sOwn) := by
 refine pure_of_vc hmix Tow_ok globNone low89 fun args z hs hf => ?_
 unfold sOwn at hs
 split at hs
 case h_2 => cases hs
 split at hs
 case h_2 => cases hs
 rename_i a x hx
 obtain ⟨rfl, wx⟩ := decF_some hx
 split at hs
 case isFalse => cases hs
 rename_i hsm
 cases hs
 unfold Fr.small at hsm
 simp only [Bool.and_eq_true, decide_eq_true_eq] at hsm
 refine ⟨by simp [lf89], ?_⟩
 have h1 := sClone_at wx.1 hsm.1
 have h2 := sClone_at wx.2 hsm.2
 simp only [Fr.enc]
 simp [lf89]
 rw [vc_regionW]
 refine ⟨[], ?_⟩
 simp [h1, h2, Tow_mu, Tow_fns]
theorem lequal_ok : FnOk Tryz.prog base 168 (pureS sSame) := by
 refine pure_of_vc hmix Tab.none_ok globNone low168 fun args z hs hf => ?_
 unfold sSame at hs
 split at hs
 case h_2 => cases hs
 rename_i xs ys
 split at hs
 case h_2 => cases hs
 rename_i a b ha hb
 obtain ⟨rfl, wa⟩ := decU_some ha
 obtain ⟨rfl, wb⟩ := decU_some hb
 cases hs
 have hlen := (hf (.lst (a.map u64)) (by simp)).lst.1
 unfold maxLen at hlen
 simp only [List.length_map] at hlen
 refine ⟨by simp [lf168], ?_⟩
 by_cases hl : a.length = b.length
 ·have hl1 : ((a.length : Int) != b.length) = false := by simp [hl]
  simp [lf168, hl1]
  simp only [lf168_B0, vc_block]
  refine loop_ind (fun fr H => ∃ i : Nat, H = [] ∧ i ≤ a.length ∧ fr 0 = .p (.lst (a.map u64)) ∧ fr 1 = .p (.lst (b.map u64)) ∧ fr 12 = .p (.int .i64 a.length) ∧ fr 13 = .p (.int .i64 i) ∧ a.take i = b.take i) (fun fr _ => a.length - ivar (fr 13)) ⟨0, rfl, by omega, by simp, by simp, by simp, by simp, by simp⟩ ?_
  rintro fr H ⟨i, rfl, hi, h0, h1, h12, h5, hj⟩
  by_cases h : i < a.length
  ·obtain ⟨u, hx⟩ : ∃ u, a[i]? = some u := ⟨_, List.getElem?_eq_getElem h⟩
   obtain ⟨v, hy⟩ : ∃ v, b[i]? = some v := ⟨_, List.getElem?_eq_getElem (show i < b.length by omega)⟩
   have hib : i < b.length := by omega
   have hnx := getE hx
   have hny := getE hy
   by_cases he : u = v
   ·subst he
    have hj' : a.take (i + 1) = b.take (i + 1) := by rw [List.take_add_one, List.take_add_one, hj, hx, hy]
    simp [h0, h1, h12, h5, h, hib, hnx, hny, wrap_succ (i := i) (by omega), ivar]
    exact ⟨⟨i + 1, by omega, rfl, hj'⟩, by omega⟩
   ·have hne : ¬ a = b := by
     rintro rfl
     rw [hx] at hy
     exact he (by cases hy; rfl)
    have hb : ((u : Int) != (v : Int)) = true := by simp; omega
    have hb2 : ((u : Int) == (v : Int)) = false := beq_false_of_ne (by omega)
    simp [h0, h1, h12, h5, h, hib, hnx, hny, hb, hb2, hne]
  ·have hil : i = a.length := by omega
   subst hil
   have hxy : a = b := by
    rw [List.take_of_length_le (Nat.le_refl _), List.take_of_length_le (by omega)] at hj
    exact hj
   simp [h0, h12, h5, hxy]
 ·have hl1 : ((a.length : Int) != b.length) = true := by simp; omega
  have hne : ¬ a = b := fun e => hl (by rw [e])
  simp [lf168, hl1, hne]
def Tal : Tab := Tab.none.with 168 (pureS sSame)
theorem Tal_ok : TabOk Tryz.prog base Tal := Tab.with_ok Tab.none_ok lequal_ok
theorem Tal_mu (f : FuncId) (a : List AVal) (H : Heap) : Tal.mu f a H = none := (rfl)
theorem Tal_fns : Tal.fn 168 = (pureS sSame) := (rfl)
theorem lalike_ok : FnOk Tryz.prog base 153 (pureS (f2 sameP)) := by
 refine pure_of_vc hmix Tal_ok globNone low153 fun args z hs hf => ?_
 obtain ⟨x, y, wx, wy, rfl, rfl⟩ := f2_some hs
 obtain ⟨s, n, d⟩ := x
 obtain ⟨t, m, e⟩ := y
 refine ⟨by simp [lf153], ?_⟩
 have h1 := sSame_list wx.1 wy.1
 have h2 := sSame_list wx.2 wy.2
 simp only at h1 h2
 simp only [Fr.enc, sameP, sameF]
 obtain ⟨q1, hq1⟩ : ∃ q, q = decide (n = m) := ⟨_, rfl⟩
 obtain ⟨q2, hq2⟩ : ∃ q, q = decide (d = e) := ⟨_, rfl⟩
 rw [← hq1] at h1 ⊢
 rw [← hq2] at h2 ⊢
 cases s <;> cases t <;> cases q1 <;> cases q2 <;> simp [lf153, h1, h2, Tal_mu, Tal_fns]
theorem sameF_iff {x y : Fr} : sameF x y = decide (x = y) := by
 obtain ⟨s, n, d⟩ := x
 obtain ⟨t, m, e⟩ := y
 unfold sameF
 rw [Bool.eq_iff_iff]
 simp [and_assoc]
def sPl1 : List PVal → Option PVal
 | [a, .cptr [.int .i64 t]] => match decPa a with | some x => some (.bool (decide (x.t = t))) | none => none
 | _ => none
theorem sPl1_at {x : Pa} {t : Int} (h : x.wf) : sPl1 [x.enc, .cptr [.int .i64 t]] = some (.bool (decide (x.t = t))) := by simp only [sPl1, decPa_enc h]
theorem lpl1_ok : FnOk Tryz.prog base 125 (pureS sPl1) := by
 refine pure_of_vc hmix Tab.none_ok globNone low125 fun args z hs hf => ?_
 unfold sPl1 at hs
 split at hs
 case h_2 => cases hs
 split at hs
 case h_2 => cases hs
 rename_i x hx
 obtain ⟨rfl, wx⟩ := decPa_some hx
 cases hs
 refine ⟨by simp [lf125], ?_⟩
 simp only [Pa.enc]
 simp [lf125]
 rfl
def sPIx : List PVal → Option PVal
 | [.lst vs, .clo 125 [.cptr [.int .i64 t]]] => match decPs vs with | some l => some (.int .i64 (match placeF t l with | some i => (i : Int) | none => -1)) | none => none
 | _ => none
theorem sPIx_at {l : List Pa} {t : Int} (h : wfPs l) : sPIx [.lst (l.map Pa.enc), .clo 125 [.cptr [.int .i64 t]]] = some (.int .i64 (match placeF t l with | some i => (i : Int) | none => -1)) := by simp only [sPIx, decPs_enc h]
theorem placeF_step {t : Int} {l : List Pa} {i : Nat} {x : Pa} (hx : l[i]? = some x) : placeF t (l.drop i) = if x.t = t then some 0 else (match placeF t (l.drop (i + 1)) with | some k => some (k + 1) | none => none) := by
 have hi := (List.getElem?_eq_some_iff.1 hx).1
 rw [List.drop_eq_getElem_cons hi, getE hx]
 rfl
def Tpix : Tab := Tab.none.with 125 (pureS sPl1)
theorem Tpix_ok : TabOk Tryz.prog base Tpix := Tab.with_ok Tab.none_ok lpl1_ok
theorem Tpix_mu (f : FuncId) (a : List AVal) (H : Heap) : Tpix.mu f a H = none := (rfl)
theorem Tpix_fns : Tpix.fn 125 = (pureS sPl1) := (rfl)
theorem lidx_ok : FnOk Tryz.prog base 124 (pureS sPIx) := by
 refine pure_of_vc hmix Tpix_ok globNone low124 fun args z hs hf => ?_
 unfold sPIx at hs
 split at hs
 case h_2 => cases hs
 rename_i vs t
 split at hs
 case h_2 => cases hs
 rename_i l hl
 obtain ⟨rfl, wl⟩ := decPs_some hl
 cases hs
 have hlen := (hf (.lst (l.map Pa.enc)) (by simp)).lst.1
 unfold maxLen at hlen
 simp only [List.length_map] at hlen
 refine ⟨by simp [lf124], ?_⟩
 simp [lf124]
 simp only [lf124_B0, vc_block]
 refine loop_ind (fun fr H => ∃ i : Nat, H = [] ∧ i ≤ l.length ∧ fr 0 = .p (.lst (l.map Pa.enc)) ∧ fr 1 = .p (.clo 125 [.cptr [.int .i64 t]]) ∧ fr 7 = .p (.int .i64 l.length) ∧ fr 8 = .p (.int .i64 i) ∧ placeF t l = (match placeF t (l.drop i) with | some k => some (k + i) | none => none)) (fun fr _ => l.length - ivar (fr 8)) ⟨0, rfl, by omega, by simp, by simp, by simp, by simp, by simp; cases placeF t l <;> rfl⟩ ?_
 rintro fr H ⟨i, rfl, hi, f0, f1', f7, f8, hp⟩
 by_cases h : i < l.length
 ·obtain ⟨x, hx⟩ : ∃ x, l[i]? = some x := ⟨_, List.getElem?_eq_getElem h⟩
  have wx : x.wf := wl x (List.mem_of_getElem? hx)
  have hc := sPl1_at (t := t) wx
  have hxe := getE hx
  rw [placeF_step hx] at hp
  simp only [Pa.enc] at hc
  by_cases ht : x.t = t
  ·rw [decide_eq_true ht] at hc
   rw [if_pos ht] at hp
   simp only [Nat.zero_add] at hp
   rw [hp]
   simp [f0, f1', f7, f8, h, hxe, Pa.enc, hc, Tpix_mu, Tpix_fns]
  ·rw [decide_eq_false ht] at hc
   rw [if_neg ht] at hp
   simp [f0, f1', f7, f8, h, hxe, Pa.enc, hc, wrap_succ (i := i) (by omega), ivar, Tpix_mu, Tpix_fns]
   refine ⟨⟨i + 1, by omega, rfl, ?_⟩, by omega⟩
   rw [hp]
   cases placeF t (l.drop (i + 1)) with
   | none => rfl
   | some k => simp only [Option.some.injEq]; omega
 ·have hil : i = l.length := by omega
  subst hil
  rw [List.drop_length] at hp
  simp only [placeF] at hp
  rw [hp]
  simp [f0, f1', f7, f8]
def placeI (p : Po) (t : Int) : Int := match placeF t p.ps with | some i => (i : Int) | none => -1
def placeP (p : Po) (t : Int) : PVal := .int .i64 (placeI p t)
def Tpl : Tab := Tab.none.with 124 (pureS sPIx)
theorem Tpl_ok : TabOk Tryz.prog base Tpl := Tab.with_ok Tab.none_ok lidx_ok
theorem Tpl_mu (f : FuncId) (a : List AVal) (H : Heap) : Tpl.mu f a H = none := (rfl)
theorem Tpl_fns : Tpl.fn 124 = (pureS sPIx) := (rfl)
theorem lplace_ok : FnOk Tryz.prog base 88 (pureS (gi placeP)) := by
 refine pure_of_vc hmix Tpl_ok globNone low88 fun args z hs hf => ?_
 obtain ⟨p, t, wp, rfl, rfl⟩ := gi_some hs
 refine ⟨by simp [lf88], ?_⟩
 have h1 := sPIx_at (t := t) wp.1
 unfold placeP placeI
 obtain ⟨r, hr⟩ : ∃ r, r = (match placeF t p.ps with | some i => (i : Int) | none => -1) := ⟨_, rfl⟩
 rw [← hr] at h1 ⊢
 simp only [Po.enc]
 simp [lf88, mkClo, freeze1, h1, Tpl_mu, Tpl_fns]
end Go.Proofs.YtcfklmjgofknjaaGreat

/-
 Slices that grow by appending, in own arrays behind known ones.
-/
namespace Go.Abs
def Grown (b size : Nat) (ty : TypeId) (es : List PVal) (x : AVal) (ex : Heap) : Prop :=
 (es = [] ∧ x = .tight []) ∨ ∃ j v, x = .own (b + j) 0 es.length v ∧ ex[j]? = some ⟨size, v, false, es.map .p, ty⟩
theorem Grown.nil (b size : Nat) (ty : TypeId) (ex : Heap) : Grown b size ty [] (.tight []) ex := .inl ⟨rfl, rfl⟩
theorem Grown.more {b size : Nat} {ty : TypeId} {es : List PVal} {x : AVal} {ex : Heap} (h : Grown b size ty es x ex) (n : Heap) : Grown b size ty es x (ex ++ n) := by
 rcases h with h | ⟨j, v, rfl, hj⟩
 ·exact .inl h
 ·exact .inr ⟨j, v, rfl, by rw [List.getElem?_append_left (List.getElem?_eq_some_iff.1 hj).1]; exact hj⟩
theorem Grown.isCell {b size : Nat} {ty : TypeId} {es : List PVal} {x : AVal} {ex : Heap} (h : Grown b size ty es x ex) : x.isCell = true ∧ x.cells = [x] ∧ x.isAgg = false := by
 rcases h with ⟨rfl, rfl⟩ | ⟨j, v, rfl, hj⟩ <;> exact ⟨rfl, rfl, rfl⟩
theorem mapO_p {H : Heap} {n : Nat} : ∀ es : List PVal, mapO (resolveV H n) (es.map .p) = some es
 | [] => rfl
 | e :: r => by
  have := mapO_p (H := H) (n := n) r
  simp only [List.map_cons, mapO, this]
  cases n <;> rfl
theorem mapO_pe {α : Type} {H : Heap} {n : Nat} {f : α → PVal} (es : List α) : mapO (resolveV H n) (es.map (AVal.p ∘ f)) = some (es.map f) := by
 rw [← List.map_map]; exact mapO_p _
theorem touch_p {H : Heap} {n : Nat} : ∀ es : List PVal, (es.map AVal.p).flatMap (touchV H n) = []
 | [] => rfl
 | e :: r => by rw [List.map_cons, List.flatMap_cons, touch_p r]; cases n <;> rfl
theorem keep1 {a : Ent} {r s : Heap} (k : Nat) (hk : k < 1) : (a :: r)[k]? = (a :: s)[k]? := by
 rcases k with _ | k
 ·rfl
 ·omega
theorem keep2 {a b : Ent} {r s : Heap} (k : Nat) (hk : k < 2) : (a :: b :: r)[k]? = (a :: b :: s)[k]? := by
 rcases k with _ | k
 ·rfl
 ·exact keep1 k (by omega)
theorem keep3 {a b c : Ent} {r s : Heap} (k : Nat) (hk : k < 3) : (a :: b :: c :: r)[k]? = (a :: b :: c :: s)[k]? := by
 rcases k with _ | k
 ·rfl
 ·exact keep2 k (by omega)
theorem snoc5 {a b e f g : Ent} {ex ex2 : Heap} (k : Nat) (hk : k < ex.length + (ex2.length + 1 + 1) + 1 + 1) : (a :: b :: (ex ++ e :: (ex2 ++ [f, g])))[k]? = (a :: b :: (ex ++ e :: (ex2 ++ [f])))[k]? := by
 have h : a :: b :: (ex ++ e :: (ex2 ++ [f, g])) = (a :: b :: (ex ++ e :: (ex2 ++ [f]))) ++ [g] := by simp
 rw [h, List.getElem?_append_left (by simp; omega)]
theorem snoc3 {a b c : Ent} {ex s : Heap} (k : Nat) (hk : k < ex.length + 1 + 1 + 1) : (a :: b :: c :: (ex ++ s))[k]? = (a :: b :: c :: ex)[k]? := by
 rw [show a :: b :: c :: (ex ++ s) = (a :: b :: c :: ex) ++ s from rfl, List.getElem?_append_left (by simpa using hk)]
theorem snoc4 {a b c d : Ent} {ex s : Heap} (k : Nat) (hk : k < ex.length + 1 + 1 + 1 + 1) : (a :: b :: c :: d :: (ex ++ s))[k]? = (a :: b :: c :: d :: ex)[k]? := by
 rw [show a :: b :: c :: d :: (ex ++ s) = (a :: b :: c :: d :: ex) ++ s from rfl, List.getElem?_append_left (by simpa using hk)]
theorem snoc4' {a b c d e : Ent} {ex s : Heap} (k : Nat) (hk : k < ex.length + 1 + 1 + 1 + 1 + 1) : (a :: b :: c :: d :: (ex ++ e :: s))[k]? = (a :: b :: c :: d :: (ex ++ [e]))[k]? := by
 rw [show a :: b :: c :: d :: (ex ++ e :: s) = (a :: b :: c :: d :: (ex ++ [e])) ++ s by simp, List.getElem?_append_left (by simpa using hk)]
theorem snoc2' {a b e : Ent} {ex s : Heap} (k : Nat) (hk : k < ex.length + 1 + 1 + 1) : (a :: b :: (ex ++ e :: s))[k]? = (a :: b :: (ex ++ [e]))[k]? := by
 rw [show a :: b :: (ex ++ e :: s) = (a :: b :: (ex ++ [e])) ++ s by simp, List.getElem?_append_left (by simpa using hk)]
theorem get3 {α : Type} (a b c : α) (ex : List α) (j : Nat) : (a :: b :: c :: ex)[3 + j]? = ex[j]? := by rw [Nat.add_comm]; rfl
theorem get4 {α : Type} (a b c d : α) (ex : List α) (j : Nat) : (a :: b :: c :: d :: ex)[4 + j]? = ex[j]? := by rw [Nat.add_comm]; rfl
theorem get5 {α : Type} (a b c d e : α) (ex : List α) (j : Nat) : (a :: b :: c :: d :: e :: ex)[5 + j]? = ex[j]? := by rw [Nat.add_comm]; rfl
theorem get2 {α : Type} (a b : α) (ex : List α) (j : Nat) : (a :: b :: ex)[2 + j]? = ex[j]? := by rw [Nat.add_comm]; rfl
theorem take_map {α β : Type} (f : α → β) (l : List α) : (l.map f).take l.length = l.map f := List.take_of_length_le (by simp)
theorem getA {α : Type} (ex r : List α) (n : Nat) : (ex ++ r)[ex.length + n]? = r[n]? := by rw [List.getElem?_append_right (by omega), Nat.add_sub_cancel_left]
theorem getA0 {α : Type} (ex r : List α) : (ex ++ r)[ex.length]? = r[0]? := getA ex r 0
theorem setA {α : Type} (ex r : List α) (n : Nat) (v : α) : (ex ++ r).set (ex.length + n) v = ex ++ r.set n v := by rw [List.set_append_right _ _ (by omega), Nat.add_sub_cancel_left]
theorem setA0 {α : Type} (ex r : List α) (v : α) : (ex ++ r).set ex.length v = ex ++ r.set 0 v := setA ex r 0 v
theorem swap3 {a b c d e : Ent} {ex : Heap} (k : Nat) (hk : k < ex.length + 1 + 1 + 1 + 1) (hn : ¬ k = ex.length + 3) : (a :: b :: c :: (ex ++ [d]))[k]? = (a :: b :: c :: (ex ++ [e]))[k]? := by
 rcases k with _ | _ | _ | k
 ·rfl
 ·rfl
 ·rfl
 ·have h : k < ex.length := by omega
  show (ex ++ [d])[k]? = (ex ++ [e])[k]?
  rw [List.getElem?_append_left h, List.getElem?_append_left h]
theorem Grown.resolve {b size : Nat} {ty : TypeId} {es : List PVal} {x : AVal} {ex pre : Heap} (h : Grown b size ty es x ex) (hb : pre.length = b) (n : Nat) : resolveV (pre ++ ex) (n + 1) x = some (.lst es) := by
 rcases h with ⟨rfl, rfl⟩ | ⟨j, v, rfl, hj⟩
 ·rfl
 ·have : (pre ++ ex)[b + j]? = some ⟨size, v, false, es.map .p, ty⟩ := by rw [List.getElem?_append_right (by omega), ← hb, Nat.add_sub_cancel_left]; exact hj
  simp only [resolveV, this, List.length_map, Nat.zero_add, Nat.le_refl, and_self, if_true, List.drop_zero]
  rw [List.take_of_length_le (by simp), mapO_p]
theorem Grown.form {b size : Nat} {ty : TypeId} {es : List PVal} {x : AVal} {ex : Heap} (h : Grown b size ty es x ex) : x = .tight [] ∨ ∃ k n v, x = .own k 0 n v := by
 rcases h with ⟨rfl, rfl⟩ | ⟨j, v, rfl, hj⟩
 ·exact .inl rfl
 ·exact .inr ⟨_, _, _, rfl⟩
theorem Grown.app {b size : Nat} {ty : TypeId} {es : List PVal} {x : AVal} {ex pre : Heap} (h : Grown b size ty es x ex) (hb : pre.length = b) {y : PVal} (hy : y.cells.length = size) (hk : y.cells.all PVal.isCell = true) (hs : 0 < size) {bytes : Nat}
  (hB : (es.length + 1) * bytes ≤ 140737488355328) (hm : es.length + 1 ≤ maxLen) :
  ∃ k v ex', appV size bytes ty x [.p y] (pre ++ ex) = some (.own k 0 (es.length + 1) v, pre ++ ex') ∧ Grown b size ty (es ++ [y]) (.own k 0 (es.length + 1) v) ex' := by
 have hc : ((AVal.p y).cells.length == size && (AVal.p y).cells.all AVal.isCell) = true := by
  simp only [AVal.cells, List.length_map, hy, beq_self_eq_true, Bool.true_and, List.all_map]
  exact hk
 have hall : ([AVal.p y].all fun y => y.cells.length == size && y.cells.all AVal.isCell) = true := by
  simp only [List.all_cons, List.all_nil, Bool.and_true]; exact hc
 rcases h with ⟨rfl, rfl⟩ | ⟨j, v, rfl, hj⟩
 ·refine ⟨b + ex.length, 0, ex ++ [⟨size, 0, false, [.p y], ty⟩], ?_, .inr ⟨ex.length, 0, rfl, by simp⟩⟩
  simp only [appV, hall, hs, and_self, if_true, List.isEmpty_nil, Bool.true_or, List.all_nil, List.length_nil, List.length_cons, Nat.zero_add, List.map_nil, List.nil_append, true_and]
  simp only [List.length_nil, Nat.zero_add] at hB hm
  rw [if_pos ⟨by simpa using hB, hm⟩]
  simp [hb]
 ·have hg : (pre ++ ex)[b + j]? = some ⟨size, v, false, es.map .p, ty⟩ := by rw [List.getElem?_append_right (by omega), ← hb, Nat.add_sub_cancel_left]; exact hj
  refine ⟨b + j, v + 1, ex.set j ⟨size, v + 1, false, es.map .p ++ [.p y], ty⟩, ?_, .inr ⟨j, v + 1, by simp, by
   have := (List.getElem?_eq_some_iff.1 hj).1
   simp [this]⟩⟩
  simp only [appV, hall, hs, and_self, if_true, hg, List.length_map, List.length_cons, List.length_nil, Nat.zero_add, true_and]
  rw [if_pos ⟨hB, hm⟩, List.set_append_right _ _ (by omega), ← hb, Nat.add_sub_cancel_left]
end Go.Abs

/-
 linear: sums that are alike; copies of parts, sums without a term; a term's number.
-/
namespace Go.Proofs.YtcfklmjgofknjaaGreat
open Go Go.Abs Go.Limbs
variable {base : Prot}
set_option maxRecDepth 20000
attribute [local irreducible] vc
attribute [local simp] pureS touchV freezeL fuel shiftV u64 au
def sPa2 : List PVal → Option PVal
 | [a, b] => match decPa a, decPa b with | some x, some y => some (.bool (decide (x = y))) | _, _ => none
 | _ => none
theorem sPa2_at {x y : Pa} (hx : x.wf) (hy : y.wf) : sPa2 [x.enc, y.enc] = some (.bool (decide (x = y))) := by simp only [sPa2, decPa_enc hx, decPa_enc hy]
def Tls1 : Tab := Tab.none.with 153 (pureS (f2 sameP))
theorem Tls1_ok : TabOk Tryz.prog base Tls1 := Tab.with_ok Tab.none_ok lalike_ok
theorem Tls1_mu (f : FuncId) (a : List AVal) (H : Heap) : Tls1.mu f a H = none := (rfl)
theorem Tls1_fns : Tls1.fn 153 = (pureS (f2 sameP)) := (rfl)
theorem pa_eq {x y : Pa} : x = y ↔ x.c = y.c ∧ x.t = y.t := by
 cases x; cases y; simp
theorem lsame1_ok : FnOk Tryz.prog base 155 (pureS sPa2) := by
 refine pure_of_vc hmix Tls1_ok globNone low155 fun args z hs hf => ?_
 unfold sPa2 at hs
 split at hs
 case h_2 => cases hs
 split at hs
 case h_2 => cases hs
 rename_i x y hx hy
 obtain ⟨rfl, wx⟩ := decPa_some hx
 obtain ⟨rfl, wy⟩ := decPa_some hy
 cases hs
 refine ⟨by simp [lf155], ?_⟩
 have h1 : f2 sameP [x.c.enc, y.c.enc] = some (.bool (decide (x.c = y.c))) := by rw [f2_at wx wy]; unfold sameP; rw [sameF_iff]
 rw [show decide (x = y) = (decide (x.t = y.t) && decide (x.c = y.c)) from by rw [Bool.eq_iff_iff]; simp [pa_eq, and_comm]]
 obtain ⟨q, hq⟩ : ∃ q, q = decide (x.c = y.c) := ⟨_, rfl⟩
 rw [← hq] at h1 ⊢
 simp only [Pa.enc, Fr.enc] at h1 ⊢
 by_cases ht : x.t = y.t
 ·have htb : (x.t == y.t) = true := by simp [ht]
  simp [lf155, htb, ht, h1, Tls1_mu, Tls1_fns]
 ·have htb : (x.t == y.t) = false := by simp [ht]
  simp [lf155, htb, ht, Tls1_mu, Tls1_fns]
def sEqF : List PVal → Option PVal
 | [.lst us, .lst vs, .clo 155 []] => match decPs us, decPs vs with | some l, some m => some (.bool (decide (l = m))) | _, _ => none
 | _ => none
theorem sEqF_at {l m : List Pa} (hl : wfPs l) (hm : wfPs m) : sEqF [.lst (l.map Pa.enc), .lst (m.map Pa.enc), .clo 155 []] = some (.bool (decide (l = m))) := by simp only [sEqF, decPs_enc hl, decPs_enc hm]
def Tls2 : Tab := Tab.none.with 155 (pureS sPa2)
theorem Tls2_ok : TabOk Tryz.prog base Tls2 := Tab.with_ok Tab.none_ok lsame1_ok
theorem Tls2_mu (f : FuncId) (a : List AVal) (H : Heap) : Tls2.mu f a H = none := (rfl)
theorem Tls2_fns : Tls2.fn 155 = (pureS sPa2) := (rfl)
theorem leqf_ok : FnOk Tryz.prog base 154 (pureS sEqF) := by
 refine pure_of_vc hmix Tls2_ok globNone low154 fun args z hs hf => ?_
 unfold sEqF at hs
 split at hs
 case h_2 => cases hs
 split at hs
 case h_2 => cases hs
 rename_i us vs l m hl hm
 obtain ⟨rfl, wl⟩ := decPs_some hl
 obtain ⟨rfl, wm⟩ := decPs_some hm
 cases hs
 have hlen := (hf (.lst (l.map Pa.enc)) (by simp)).lst.1
 unfold maxLen at hlen
 simp only [List.length_map] at hlen
 refine ⟨by simp [lf154], ?_⟩
 by_cases hlm : l.length = m.length
 ·have hl1 : ((l.length : Int) != m.length) = false := by simp [hlm]
  simp [lf154, hl1]
  simp only [lf154_B0, vc_block]
  refine loop_ind (fun fr H => ∃ i : Nat, i ≤ l.length ∧ fr 1 = .p (.lst (m.map Pa.enc)) ∧ fr 2 = .p (.clo 155 []) ∧ fr 15 = .p (.lst (l.map Pa.enc)) ∧ fr 16 = .p (.int .i64 l.length) ∧ fr 17 = .p (.int .i64 i) ∧ l.take i = m.take i) (fun fr _ => l.length - ivar (fr 17)) ⟨0, by omega, by simp, by simp, by simp, by simp, by simp, by simp⟩ ?_
  rintro fr H ⟨i, hi, f1', f2', f15, f16, f17, hj⟩
  by_cases h : i < l.length
  ·obtain ⟨u, hx⟩ : ∃ u, l[i]? = some u := ⟨_, List.getElem?_eq_getElem h⟩
   have him : i < m.length := by omega
   obtain ⟨v, hy⟩ : ∃ v, m[i]? = some v := ⟨_, List.getElem?_eq_getElem him⟩
   have hnx := getE hx
   have hny := getE hy
   have hc := sPa2_at (wl u (List.mem_of_getElem? hx)) (wm v (List.mem_of_getElem? hy))
   simp only [Pa.enc] at hc
   have hw := wrap_succ (i := i) (by omega)
   by_cases he : u = v
   ·rw [decide_eq_true he] at hc
    have hj' : l.take (i + 1) = m.take (i + 1) := by rw [List.take_add_one, List.take_add_one, hj, hx, hy, he]
    simp [f1', f2', f15, f16, f17, h, him, hnx, hny, Pa.enc, hc, hw, ivar, Tls2_mu, Tls2_fns]
    exact ⟨⟨i + 1, by omega, rfl, hj'⟩, by omega⟩
   ·have hne : ¬ l = m := by
     rintro rfl
     rw [hx] at hy
     exact he (by cases hy; rfl)
    rw [decide_eq_false he] at hc
    simp [f1', f2', f15, f16, f17, h, him, hnx, hny, Pa.enc, hc, hne, Tls2_mu, Tls2_fns]
  ·have hil : i = l.length := by omega
   subst hil
   have hxy : l = m := by
    rw [List.take_of_length_le (Nat.le_refl _), List.take_of_length_le (by omega)] at hj
    exact hj
   simp [f16, f17, hxy]
 ·have hl1 : ((l.length : Int) != m.length) = true := by simp; omega
  have hne : ¬ l = m := fun e => hlm (by rw [e])
  simp [lf154, hl1, hne]
theorem po_eq {x y : Po} : x = y ↔ x.ps = y.ps ∧ x.c = y.c := by
 cases x; cases y; simp
def Tls3 : Tab := (Tab.none.with 153 (pureS (f2 sameP))).with 154 (pureS sEqF)
theorem Tls3_ok : TabOk Tryz.prog base Tls3 := Tab.with_ok (Tab.with_ok Tab.none_ok lalike_ok) leqf_ok
theorem Tls3_mu (f : FuncId) (a : List AVal) (H : Heap) : Tls3.mu f a H = none := (rfl)
theorem Tls3_fns : Tls3.fn 153 = (pureS (f2 sameP)) ∧ Tls3.fn 154 = (pureS sEqF) := ⟨rfl, rfl⟩
theorem lsamep_ok : FnOk Tryz.prog base 132 (pureS (g2 samePo)) := by
 refine pure_of_vc hmix Tls3_ok globNone low132 fun args z hs hf => ?_
 obtain ⟨x, y, wx, wy, rfl, rfl⟩ := g2_some hs
 refine ⟨by simp [lf132], ?_⟩
 have h1 : f2 sameP [x.c.enc, y.c.enc] = some (.bool (decide (x.c = y.c))) := by rw [f2_at wx.2 wy.2]; unfold sameP; rw [sameF_iff]
 have h2 := sEqF_at wx.1 wy.1
 unfold samePo
 rw [show decide (x = y) = (decide (x.c = y.c) && decide (x.ps = y.ps)) from by rw [Bool.eq_iff_iff]; simp [po_eq, and_comm]]
 obtain ⟨q, hq⟩ : ∃ q, q = decide (x.c = y.c) := ⟨_, rfl⟩
 obtain ⟨r, hr⟩ : ∃ q, q = decide (x.ps = y.ps) := ⟨_, rfl⟩
 rw [← hq] at h1 ⊢
 rw [← hr] at h2 ⊢
 simp only [Po.enc, Fr.enc] at h1 h2 ⊢
 cases q <;> simp [lf132, h1, h2, Tls3_mu, Tls3_fns]
def sCloneP : List PVal → Option (List PVal)
 | [.lst vs] => match decPs vs with | some (_ :: l) => if l.length ≤ 1000000 then some vs else none | _ => none
 | _ => none
theorem sCloneP_at {l : List Pa} (h : wfPs l) (h0 : l ≠ []) (hl : l.length ≤ 1000000) : sCloneP [.lst (l.map Pa.enc)] = some (l.map Pa.enc) := by
 cases l with
 | nil => exact absurd rfl h0
 | cons x l =>
  have := decPs_enc h
  simp only [sCloneP, this]
  rw [if_pos (by simp only [List.length_cons] at hl; omega)]
theorem lclone_ok : FnOk Tryz.prog base 135 (freshS 4 70 sCloneP) := by
 refine fresh_of_vc hmix Tab.none_ok globNone low135 fun args es hs hf => ?_
 unfold sCloneP at hs
 split at hs
 case h_2 => cases hs
 split at hs
 case h_2 => cases hs
 rename_i x l hl
 obtain ⟨rfl, wl⟩ := decPs_some hl
 split at hs
 case isFalse => cases hs
 rename_i hlen
 cases hs
 refine ⟨by simp [lf135], ?_⟩
 have hm := maxLen_ge
 have h1 : (l.length + 1) * 64 ≤ 140737488355328 := by omega
 have h2 : l.length + 1 ≤ maxLen := by omega
 have h3 : (x :: l).map Pa.enc = x.enc :: l.map Pa.enc := rfl
 simp [lf135, fillS, Pa.enc, h1, h2, freshQ]
 exact ⟨0, 1, ⟨rfl, rfl⟩, _, rfl, rfl, rfl, rfl, rfl, rfl⟩
def zPart : AVal := .agg [.p (.bool false), .tight [], .tight [], .p (.int .i64 0)]
def sDel : List AVal → Heap → Option (AVal × Heap)
 | [.own k 0 n v, .p (.int .i64 i), .p (.int .i64 j)], H => match H[k]? with
  | some e => if (e.ver = v ∧ e.size = 4 ∧ e.froz = false ∧ e.ty = 70 ∧ n = e.elems.length) ∧ (0 ≤ i ∧ j = i + 1 ∧ i < n ∧ n ≤ 1000000) ∧ (e.elems.all fun y => y.cells.length == 4 && y.cells.all AVal.isCell) = true then
    some (.own k 0 (n - 1) v, H.set k ⟨4, v, false, e.elems.take i.toNat ++ e.elems.drop (i.toNat + 1) ++ [zPart], 70⟩)
   else none
  | none => none
 | _, _ => none
theorem take_mid {α : Type} (a b : List α) (x : α) : (a ++ x :: b).take a.length = a := by simp
theorem drop_mid {α : Type} (a b : List α) (x : α) : (a ++ x :: b).drop (a.length + 1) = b := by simp
theorem ldel_ok : MuOk Tryz.prog base 134 sDel := by
 refine own_of_vc hmix Tab.none_ok globNone low134 fun args H r H' hs hf => ?_
 unfold sDel at hs
 split at hs
 case h_2 => cases hs
 rename_i k n v i j
 split at hs
 case h_2 => cases hs
 rename_i e he
 split at hs
 case isFalse => cases hs
 rename_i hc
 obtain ⟨⟨h1, h2, h3, h4, h5⟩, ⟨c1, c2, c3, c4⟩, hall⟩ := hc
 obtain ⟨es, ver, froz, elems, ty⟩ := e
 simp only at h1 h2 h3 h4 h5 hall
 subst h1 h2 h3 h4 c2
 obtain ⟨i, rfl⟩ := Int.eq_ofNat_of_zero_le c1
 simp only [Int.toNat_natCast] at hs
 have hi : i < elems.length := by omega
 obtain ⟨al, x, bl, hel, hia⟩ : ∃ al x bl, elems = al ++ x :: bl ∧ al.length = i := ⟨elems.take i, elems[i], elems.drop (i + 1), by rw [← List.drop_eq_getElem_cons hi, List.take_append_drop], by simp; omega⟩
 subst hel hia h5
 rw [take_mid, drop_mid] at hs
 cases hs
 have hk := (List.getElem?_eq_some_iff.1 he).1
 simp only [List.length_append, List.length_cons] at c3 c4 ⊢
 refine ⟨by simp [lf134], ?_⟩
 have hs1 : ((al.length : Int) == (al.length : Int) + 1) = false := by simp; omega
 have a1 : (al.length : Int) ≤ (al.length : Int) + ((bl.length : Int) + 1) := by omega
 have a2 : (al.length : Int) + 1 ≤ (al.length : Int) + ((bl.length : Int) + 1) := by omega
 have a3 : (0 : Int) ≤ (al.length : Int) + 1 := by omega
 have a4 : (al.length : Int) ≤ (al.length : Int) + 1 := by omega
 have n1 : ((al.length : Int) + 1).toNat = al.length + 1 := by omega
 have n2 : ((al.length : Int) + ((bl.length : Int) + 1) - ((al.length : Int) + 1)).toNat = bl.length := by omega
 simp [lf134, he, hs1, a1, a2, a3, a4]
 rw [vc_regionW]
 refine ⟨[k], ?_⟩
 have a5 : al.length + 1 + bl.length ≤ al.length + (bl.length + 1) := by omega
 have hb2 : (bl.all fun y => y.cells.length == 4 && y.cells.all AVal.isCell) = true := by
  rw [List.all_append, List.all_cons, Bool.and_eq_true, Bool.and_eq_true] at hall
  exact hall.2.2
 simp [-AVal.cells, -AVal.isCell] at hb2
 have hb3 := eq_true hb2
 by_cases hbl : bl = []
 ·subst hbl
  simp [he, a1, a2, a3, a4, n1, n2, retQ, zPart]
 ·have hbp : 0 < bl.length := List.length_pos_iff.2 hbl
  have hset : ∀ e, (H.set k e)[k]? = some e := fun e => List.getElem?_set_self hk
  have n3 : ((al.length : Int) + ((bl.length : Int) + 1) - ((al.length : Int) + (bl.length : Int))).toNat = 1 := by omega
  have n4 : ((al.length : Int) + (bl.length : Int)).toNat = al.length + bl.length := by omega
  have a6 : (0 : Int) ≤ (al.length : Int) + (bl.length : Int) := by omega
  have a7 : (al.length : Int) + (bl.length : Int) ≤ (al.length : Int) + ((bl.length : Int) + 1) := by omega
  have a8 : (bl.length + 1 - bl.length) = 1 := by omega
  have a9 : ¬ ((bl.length : Int) + 1 ≤ (bl.length : Int)) := by omega
  have a10 : al.length + bl.length + 1 ≤ al.length + (bl.length + 1) := by omega
  have l1 : List.take (al.length + bl.length) (al ++ (bl ++ List.drop bl.length (x :: bl))) = al ++ bl := by
   rw [← List.append_assoc, ← List.length_append, List.take_left]
  have l2 : List.drop (al.length + bl.length + 1) (al ++ (bl ++ List.drop bl.length (x :: bl))) = [] := List.drop_eq_nil_of_le (by simp; omega)
  simp [he, a1, a2, a3, a4, a5, n1, n2, n3, n4, a6, a7, a8, a9, a10, l1, l2, hset, hb3, hbp, retQ, zPart, -AVal.cells, -AVal.isCell]
theorem placeF_some {t : Int} : ∀ {l : List Pa} {i : Nat}, placeF t l = some i → ∃ al x bl, l = al ++ x :: bl ∧ al.length = i ∧ x.t = t ∧ dropF t l = al ++ bl ∧ findF t l = some x.c
 | [], i, h => by cases h
 | x :: r, i, h => by
  unfold placeF at h
  by_cases ht : x.t = t
  ·rw [if_pos ht] at h
   cases h
   exact ⟨[], x, r, rfl, rfl, ht, by unfold dropF; rw [if_pos ht]; rfl, by unfold findF; rw [if_pos ht]⟩
  ·rw [if_neg ht] at h
   cases hp : placeF t r with
   | none => rw [hp] at h; cases h
   | some k =>
    rw [hp] at h
    cases h
    obtain ⟨al, y, bl, rfl, hl, hy, hd, hf⟩ := placeF_some hp
    exact ⟨x :: al, y, bl, rfl, by simp [hl], hy, by unfold dropF; rw [if_neg ht, hd]; rfl, by unfold findF; rw [if_neg ht, hf]⟩
theorem placeF_none {t : Int} : ∀ {l : List Pa}, placeF t l = none → dropF t l = l ∧ findF t l = none
 | [], _ => ⟨rfl, rfl⟩
 | x :: r, h => by
  unfold placeF at h
  by_cases ht : x.t = t
  ·rw [if_pos ht] at h; cases h
  ·rw [if_neg ht] at h
   cases hp : placeF t r with
   | none =>
    obtain ⟨h1, h2⟩ := placeF_none hp
    exact ⟨by unfold dropF; rw [if_neg ht, h1], by unfold findF; rw [if_neg ht, h2]⟩
   | some k => rw [hp] at h; cases h
def withoutP (p : Po) (t : Int) : PVal := (withoutPo p t).enc
def Twi0 : Tab := (Tab.none.with 88 (pureS (gi placeP))).with 135 (freshS 4 70 sCloneP)
theorem Twi0_ok : TabOk Tryz.prog base Twi0 := Tab.with_ok (Tab.with_ok Tab.none_ok lplace_ok) lclone_ok
def Twi : Tab := Twi0.own 134 sDel
theorem Twi_ok : TabOk Tryz.prog base Twi := Tab.own_ok Twi0_ok ldel_ok
theorem Twi_fns : (Twi.fn 88 = pureS (gi placeP) ∧ Twi.fn 135 = freshS 4 70 sCloneP) ∧ (∀ a H, Twi.mu 88 a H = none) ∧ (∀ a H, Twi.mu 135 a H = none) ∧ ∀ a H, Twi.mu 134 a H = sDel a H := ⟨⟨rfl, rfl⟩, fun _ _ => rfl, fun _ _ => rfl, fun _ _ => rfl⟩
theorem lwithout_ok : FnOk Tryz.prog base 104 (pureS (gis withoutP)) := by
 refine pure_of_vc hmix Twi_ok globNone low104 fun args z hs hf => ?_
 obtain ⟨p, t, wp, fp, rfl, rfl⟩ := gis_some hs
 refine ⟨by simp [lf104], ?_⟩
 have hlen := few_le fp
 have v1 : gi placeP [p.enc, .int .i64 t] = some (.int .i64 (placeI p t)) := gi_at wp
 unfold withoutP withoutPo
 cases hp : placeF t p.ps with
 | none =>
  obtain ⟨h1, h2⟩ := placeF_none hp
  have : placeI p t = -1 := by unfold placeI; rw [hp]
  rw [this] at v1
  rw [h1]
  simp only [Po.enc, Fr.enc] at v1 ⊢
  simp [lf104, v1, fillS, Twi_fns]
 | some i =>
  obtain ⟨al, x, bl, hps, hal, hx, hd, hfi⟩ := placeF_some hp
  have : placeI p t = (al.length : Int) := by unfold placeI; rw [hp, hal]
  rw [this] at v1
  rw [hd]
  have hc := sCloneP_at wp.1 (by rw [hps]; simp) hlen
  have hw : IntKind.i64.wrap ((al.length : Int) + 1) = (al.length : Int) + 1 := IntWalk.i64_in _ (by rw [hps] at hlen; simp at hlen; omega)
  have hla : ∀ H : Heap, H[2]? = some ⟨4, 0, false, List.map (AVal.p ∘ Pa.enc) p.ps, 70⟩ → sDel [.own 2 0 p.ps.length 0, .p (.int .i64 al.length), .p (.int .i64 ((al.length : Int) + 1))] H =
    some (.own 2 0 (al ++ bl).length 0, H.set 2 ⟨4, 0, false, (al ++ bl).map (AVal.p ∘ Pa.enc) ++ [zPart], 70⟩) := by
   intro H hH
   have hl2 : p.ps.length = al.length + (bl.length + 1) := by rw [hps]; simp
   simp only [sDel, hH]
   rw [if_pos ⟨by simp, ⟨by omega, by simp, by omega, hlen⟩, by
    rw [List.all_eq_true]
    intro y hy
    obtain ⟨q, _, rfl⟩ := List.mem_map.1 hy
    rfl⟩]
   have e1 : p.ps.length - 1 = (al ++ bl).length := by rw [hl2, List.length_append]; omega
   have e2 : (al.map (AVal.p ∘ Pa.enc)).length = al.length := by simp
   have e3 : List.map (AVal.p ∘ Pa.enc) p.ps = al.map (AVal.p ∘ Pa.enc) ++ (AVal.p ∘ Pa.enc) x :: bl.map (AVal.p ∘ Pa.enc) := by rw [hps]; simp
   have e4 := take_mid (al.map (AVal.p ∘ Pa.enc)) (bl.map (AVal.p ∘ Pa.enc)) ((AVal.p ∘ Pa.enc) x)
   have e5 := drop_mid (al.map (AVal.p ∘ Pa.enc)) (bl.map (AVal.p ∘ Pa.enc)) ((AVal.p ∘ Pa.enc) x)
   rw [e2] at e4 e5
   simp only [Int.toNat_natCast]
   rw [e1, e3, e4, e5, List.map_append]
  obtain ⟨cl, hcl⟩ : ∃ cl, cl = al ++ bl := ⟨_, rfl⟩
  rw [← hcl] at hla ⊢
  have ht : List.take cl.length (List.map (AVal.p ∘ Pa.enc) cl ++ [zPart]) = List.map (AVal.p ∘ Pa.enc) cl := by
   have := List.take_left (l₁ := List.map (AVal.p ∘ Pa.enc) cl) (l₂ := [zPart])
   simpa using this
  simp only [Po.enc, Fr.enc] at v1 hc ⊢
  have hng : ¬ (al.length : Int) < 0 := by omega
  simp [lf104, v1, fillS, hng, Twi_fns]
  rw [vc_regionW]
  refine ⟨[], ?_⟩
  simp [v1, hc, hw, hla, ht, fillS, freshS, shiftE, mapO_pe, Twi_fns]
  exact ⟨fun k hk => (by rcases k with _ | _ | k <;> first | rfl | omega), fun k hk => (by rcases k with _ | _ | k <;> first | rfl | omega)⟩
def coefP (p : Po) (t : Int) : PVal := (coefPo p t).enc
theorem wfPs_find {t : Int} : ∀ {l : List Pa} {c : Fr}, wfPs l → findF t l = some c → c.wf
 | x :: r, c, h, hf => by
  unfold findF at hf
  split at hf
  ·cases hf; exact h x (by simp)
  ·exact wfPs_find (fun y hy => h y (by simp [hy])) hf
theorem wf_coefPo {p : Po} (h : p.wf) (t : Int) : (coefPo p t).wf := by
 unfold coefPo
 split
 ·split
  ·exact wfPs_find h.1 (by assumption)
  ·exact wf_ofQ 0
 ·exact wf_ofQ 0
def Tco : Tab := (((Tab.none.with 88 (pureS (gi placeP))).with 84 (pureS (g1 okPo))).with 89 (pureS sOwn)).with 90 (pureS sQZero)
theorem Tco_ok : TabOk Tryz.prog base Tco := Tab.with_ok (Tab.with_ok (Tab.with_ok (Tab.with_ok Tab.none_ok lplace_ok) lvalid_ok) lown_ok) qzero_ok
theorem Tco_mu (f : FuncId) (a : List AVal) (H : Heap) : Tco.mu f a H = none := (rfl)
theorem Tco_fns : Tco.fn 88 = (pureS (gi placeP)) ∧ Tco.fn 84 = (pureS (g1 okPo)) ∧ Tco.fn 89 = (pureS sOwn) ∧ Tco.fn 90 = (pureS sQZero) := ⟨rfl, rfl, rfl, rfl⟩
theorem okParts_mem : ∀ {l : List Pa} {a : Int}, okParts a l = true → ∀ x ∈ l, x.c.ok = true
 | [], _, _, x, hx => by cases hx
 | y :: r, a, h, x, hx => by
  simp only [okParts, Bool.and_eq_true] at h
  rcases List.mem_cons.1 hx with rfl | hx
  ·exact h.1.1.2
  ·exact okParts_mem h.2 x hx
theorem ok_part {p : Po} (h : p.ok = true) {x : Pa} (hx : x ∈ p.ps) : x.c.ok = true := by
 unfold Po.ok at h
 rw [Bool.and_eq_true] at h
 exact okParts_mem h.1 x hx
theorem ok_const {p : Po} (h : p.ok = true) : p.c.ok = true := by
 unfold Po.ok at h
 rw [Bool.and_eq_true] at h
 exact h.2
theorem lcoef_ok : FnOk Tryz.prog base 45 (pureS (gi coefP)) := by
 refine pure_of_vc hmix Tco_ok globNone low45 fun args z hs hf => ?_
 obtain ⟨p, t, wp, rfl, rfl⟩ := gi_some hs
 refine ⟨by simp [lf45], ?_⟩
 have v1 : gi placeP [p.enc, .int .i64 t] = some (.int .i64 (placeI p t)) := gi_at wp
 have v2 : g1 okPo [p.enc] = some (.bool p.ok) := g1_at wp
 have v3 := sQZero_nil
 unfold coefP coefPo
 cases hp : placeF t p.ps with
 | none =>
  obtain ⟨h1, h2⟩ := placeF_none hp
  have : placeI p t = -1 := by unfold placeI; rw [hp]
  rw [this] at v1
  rw [h2]
  simp only [Po.enc, Fr.enc] at v1 v3 ⊢
  simp [lf45, v1, v3, fillS, Tco_mu, Tco_fns]
 | some i =>
  obtain ⟨al, x, bl, hps, hal, hx, hd, hfi⟩ := placeF_some hp
  have : placeI p t = (al.length : Int) := by unfold placeI; rw [hp, hal]
  rw [this] at v1
  rw [hfi]
  have hxm : x ∈ p.ps := by rw [hps]; simp
  have hxi : p.ps[al.length]? = some x := by rw [hps]; simp
  have hil : al.length < p.ps.length := by rw [hps]; simp
  have hxe := getE hxi
  have h0 : (0 : Int) ≤ (al.length : Int) := by omega
  cases hok : p.ok with
  | false =>
   rw [hok] at v2
   simp only [Po.enc, Fr.enc] at v1 v2 v3 ⊢
   simp [lf45, v1, v2, v3, h0, fillS, Tco_mu, Tco_fns]
  | true =>
   rw [hok] at v2
   have v4 := sOwn_ok (wp.1 x hxm) (ok_part hok hxm)
   simp only [Po.enc, Fr.enc] at v1 v2 v4 ⊢
   simp [lf45, v1, v2, v4, h0, hil, hxe, Pa.enc, fillS, Tco_mu, Tco_fns]
end Go.Proofs.YtcfklmjgofknjaaGreat
