/-
  What linear's functions of what is one, the same, copies, places and single parts compute. No conditions beyond the lemmas' own hypotheses.
-/
import Derived.Test.YtgbjjikaenlkmaaGreatLinB
import Derived.Test.YtgbjjikaenlkmaaGreatRatM
import Derived.Test.YtgbjjikaenlkmaaGreatNatTA
import Derived.Test.YtgbjjikaenlkmaaGreatNatD
set_option linter.unusedSimpArgs false
set_option linter.unnecessarySimpa false
set_option linter.unusedVariables false
set_option linter.constructorNameAsVariable false

/-
 linear's Valid, the reference's, and the guards.
-/
namespace Go.Proofs.YtgbjjikaenlkmaaGreat
open Go Go.Abs Go.Limbs
variable {base : Prot}
set_option maxRecDepth 20000
attribute [local irreducible] vc
attribute [local simp] pureS touchV freezeL fuel shiftV u64 au
def Tlv : Tab := (Tab.none.with 69 (pureS (f1 boolF))).with 71 (pureS (f1 signP))
theorem Tlv_ok : TabOk Tryz.prog base Tlv := Tab.with_ok (Tab.with_ok Tab.none_ok qvalid_ok) qsign_ok
theorem Tlv_mu (f : FuncId) (a : List AVal) (H : Heap) : Tlv.mu f a H = none := (rfl)
theorem Tlv_fns : Tlv.fn 69 = pureS (f1 boolF) ∧ Tlv.fn 71 = pureS (f1 signP) := ⟨rfl, rfl⟩
def lastT (l : List Pa) (i : Nat) : Int := match i with | 0 => -1 | j + 1 => match l[j]? with | some x => x.t | none => -1
theorem okParts_at {l : List Pa} {i : Nat} {x : Pa} (h : l[i]? = some x) : okParts (lastT l i) (l.drop i) = (decide (lastT l i < x.t) && x.c.ok && !decide (x.c.n = []) && okParts (lastT l (i + 1)) (l.drop (i + 1))) := by
 have hi := (List.getElem?_eq_some_iff.1 h).1
 rw [List.drop_eq_getElem_cons hi, getE h, okParts]
 have : lastT l (i + 1) = x.t := by simp only [lastT, h]
 rw [this]
theorem lvalid_ok : FnOk Tryz.prog base 68 (pureS (g1 okPo)) := by
 refine pure_of_vc hmix Tlv_ok globNone low68 fun args z hs hf => ?_
 obtain ⟨p, wp, rfl, rfl⟩ := g1_some hs
 refine ⟨by simp [lf68], ?_⟩
 unfold okPo
 have hc : f1 boolF [p.c.enc] = some (.bool p.c.ok) := vF wp.2
 simp only [Po.enc, Fr.enc] at hc ⊢
 have hlen : p.ps.length ≤ 9223372036854775807 := by
  have h1 := (Fits.agg (hf _ (List.mem_singleton.2 rfl))) _ (List.mem_cons_self ..)
  have h2 := h1.lst.1
  rw [List.length_map] at h2
  exact Nat.le_trans h2 (by decide)
 simp [lf68, fillS]
 simp only [lf68_B0, vc_block]
 obtain ⟨bx, hbx⟩ : ∃ b : Ent, b = ⟨4, 0, false, [.p p.enc], 76⟩ := ⟨_, rfl⟩
 simp only [Po.enc] at hbx
 rw [← hbx]
 refine loop_ind (fun fr H => ∃ i : Nat, (∃ ex : Heap, H = bx :: ex) ∧ i ≤ p.ps.length ∧ okParts (-1) p.ps = okParts (lastT p.ps i) (p.ps.drop i) ∧ -1 ≤ lastT p.ps i ∧ fr 1 = .optr 0 0 0 0 ∧ fr 6 = .p (.lst (p.ps.map Pa.enc)) ∧ fr 7 = .p (.int .i64 p.ps.length) ∧ fr 8 = .p (.int .i64 i)) (fun fr _ => p.ps.length - ivar (fr 8))
  ⟨0, ⟨[], rfl⟩, by omega, rfl, Int.le_refl _, by simp, by simp, by simp, by simp⟩ ?_
 rintro fr H ⟨i, ⟨ex, rfl⟩, hi, hok, hge, f1', f6, f7, f8⟩
 by_cases h1 : i < p.ps.length
 ·obtain ⟨x, hx⟩ : ∃ x, p.ps[i]? = some x := ⟨_, List.getElem?_eq_getElem h1⟩
  have wx : x.c.wf := wp.1 x (List.mem_of_getElem? hx)
  have hv : f1 boolF [x.c.enc] = some (.bool x.c.ok) := vF wx
  have hsg : f1 signP [x.c.enc] = some (.int .i64 (signF x.c)) := f1_at wx
  simp only [Fr.enc] at hv hsg
  have hxe := getE hx
  have hw := wrap_succ (i := i) (by omega)
  rw [okParts_at hx] at hok
  have hlx : lastT p.ps (i + 1) = x.t := by simp only [lastT, hx]
  have bad : (decide (lastT p.ps i < x.t) && x.c.ok && !decide (x.c.n = [])) = false → p.ok = false := fun h => by
   unfold Po.ok
   rw [hok, h]
   rfl
  have good : (decide (lastT p.ps i < x.t) && x.c.ok && !decide (x.c.n = [])) = true → okParts (-1) p.ps = okParts (lastT p.ps (i + 1)) (p.ps.drop (i + 1)) := fun h => by rw [hok, h]; rfl
  have h0 : i = 0 ∨ ∃ j y, i = j + 1 ∧ p.ps[j]? = some y ∧ lastT p.ps i = y.t := by
   cases i with
   | zero => exact .inl rfl
   | succ j =>
    obtain ⟨y, hy⟩ : ∃ y, p.ps[j]? = some y := ⟨_, List.getElem?_eq_getElem (by omega)⟩
    exact .inr ⟨j, y, rfl, hy, by simp only [lastT, hy]⟩
  by_cases ha : x.t < 0
  ·have hb := bad (by rw [decide_eq_false (show ¬ lastT p.ps i < x.t by omega)]; rfl)
   rw [hb]
   simp [hbx, f1', f6, f7, f8, h1, hxe, Pa.enc, ha, binS, fillS, Tlv_mu, Tlv_fns]
  ·rcases h0 with rfl | ⟨j, y, rfl, hy, hlt⟩
   ·have hlt : lastT p.ps 0 < x.t := by show (-1 : Int) < x.t; omega
    cases hvk : x.c.ok with
    | false =>
     rw [hvk] at hv
     rw [bad (by rw [hvk]; simp)]
     simp [hbx, f1', f6, f7, f8, h1, hxe, Pa.enc, ha, hv, binS, fillS, Tlv_mu, Tlv_fns]
    | true =>
     have hsn := sign_nil hvk
     rw [hvk] at hv
     by_cases hn : x.c.n = []
     ·rw [decide_eq_true hn] at hsn
      rw [bad (by rw [decide_eq_true hn]; simp)]
      simp [hbx, f1', f6, f7, f8, h1, hxe, Pa.enc, ha, hv, hsg, hsn, binS, fillS, Tlv_mu, Tlv_fns]
     ·rw [decide_eq_false hn] at hsn
      have hg := good (by rw [decide_eq_true hlt, hvk, decide_eq_false hn]; rfl)
      simp [hbx, f1', f6, f7, f8, h1, hxe, Pa.enc, ha, hv, hsg, hsn, hw, binS, fillS, ivar, Tlv_mu, Tlv_fns]
      have w1 : IntKind.i64.wrap 1 = 1 := by decide
      rw [w1]
      exact ⟨⟨1, by omega, hg, by rw [hlx]; omega, rfl⟩, by simp; omega⟩
   ·have hj := IntWalk.i64_in (((j + 1 : Nat) : Int) - 1) (by omega)
    have hj2 : ((j + 1 : Nat) : Int) - 1 = (j : Int) := by omega
    have hj1 : j < p.ps.length := by omega
    have hye := getE hy
    have hp0 : (0 : Int) < ((j + 1 : Nat) : Int) := by omega
    have hp0' : (0 : Int) < (j : Int) + 1 := by omega
    have hwj2 : IntKind.i64.wrap (j : Int) = (j : Int) := IntWalk.i64_in _ (by omega)
    have hp2 : (0 : Int) ≤ (j : Int) + 1 := by omega
    have hp3 : ((j : Int) + 1).toNat = j + 1 := by omega
    have h1I : (j : Int) + 1 < (p.ps.length : Int) := by omega
    have hwj : IntKind.i64.wrap ((j : Int) + 1 - 1) = (j : Int) := by rw [IntWalk.i64_in _ (by omega)]; omega
    have hw' : IntKind.i64.wrap ((j : Int) + 1 + 1) = ((j + 2 : Nat) : Int) := by rw [IntWalk.i64_in _ (by omega)]; omega
    by_cases hle : x.t ≤ y.t
    ·rw [bad (by rw [decide_eq_false (show ¬ lastT p.ps (j + 1) < x.t by omega)]; rfl)]
     simp [hbx, f1', f6, f7, f8, h1, hxe, hye, hj1, h1I, hp2, hp3, hwj2, hy, hp0, hp0', hwj, Pa.enc, ha, hle, binS, fillS, Tlv_mu, Tlv_fns]
    ·have hltx : lastT p.ps (j + 1) < x.t := by omega
     cases hvk : x.c.ok with
     | false =>
      rw [hvk] at hv
      rw [bad (by rw [hvk]; simp)]
      simp [hbx, f1', f6, f7, f8, h1, hxe, hye, hj1, h1I, hp2, hp3, hwj2, hy, hp0, hp0', hwj, Pa.enc, ha, hle, hv, binS, fillS, Tlv_mu, Tlv_fns]
     | true =>
      have hsn := sign_nil hvk
      rw [hvk] at hv
      by_cases hn : x.c.n = []
      ·rw [decide_eq_true hn] at hsn
       rw [bad (by rw [decide_eq_true hn]; simp)]
       simp [hbx, f1', f6, f7, f8, h1, hxe, hye, hj1, h1I, hp2, hp3, hwj2, hy, hp0, hp0', hwj, Pa.enc, ha, hle, hv, hsg, hsn, binS, fillS, Tlv_mu, Tlv_fns]
      ·rw [decide_eq_false hn] at hsn
       have hg := good (by rw [decide_eq_true hltx, hvk, decide_eq_false hn]; rfl)
       simp [hbx, f1', f6, f7, f8, h1, hxe, hye, hj1, h1I, hp2, hp3, hwj2, hy, hp0, hp0', hwj, hw', Pa.enc, ha, hle, hv, hsg, hsn, binS, fillS, ivar, Tlv_mu, Tlv_fns]
       exact ⟨⟨j + 1 + 1, by omega, hg, by rw [hlx]; omega, by omega⟩, by omega⟩
 ·have hil : i = p.ps.length := by omega
  subst hil
  rw [List.drop_length] at hok
  have : p.ok = p.c.ok := by unfold Po.ok; rw [hok]; rfl
  rw [this]
  simp [hbx, f1', f6, f7, f8, hc, Tlv_mu, Tlv_fns]
end Go.Proofs.YtgbjjikaenlkmaaGreat

/-
 linear: copies of fractions; the same; where a sum has a term; a term's number.
-/
namespace Go.Proofs.YtgbjjikaenlkmaaGreat
open Go Go.Abs Go.Limbs
variable {base : Prot}
set_option maxRecDepth 20000
attribute [local irreducible] vc
attribute [local simp] pureS touchV freezeL fuel shiftV u64 au
def Fr.small (x : Fr) : Bool := decide (x.n.length ≤ 1000000) && decide (x.d.length ≤ 1000000)
def sOwn : List PVal → Option PVal
 | [a] => match decF a with | some x => if x.small then some x.enc else none | none => none
 | _ => none
theorem sOwn_at {x : Fr} (h : x.wf) (hs : x.small = true) : sOwn [x.enc] = some x.enc := by simp only [sOwn, decF_enc h, hs, if_true]
theorem sClone_at {l : List Nat} (h : Wf l) (hs : l.length ≤ 1000000) : sClone [.lst (l.map u64)] = some (.lst (l.map u64)) := by
 simp only [sClone, decU_map h, if_pos hs]; rfl
theorem small_ok {x : Fr} (h : x.ok = true) : x.small = true := by
 obtain ⟨q, hq, rfl⟩ := Fr.ok_of h
 unfold Fr.small ofQ
 have h1 : (limbs q.num.natAbs).length ≤ 64 := hq.1
 have h2 : (limbs q.den).length ≤ 64 := hq.2
 simp only [Bool.and_eq_true, decide_eq_true_eq]
 omega
theorem sOwn_ok {x : Fr} (h : x.wf) (hs : x.ok = true) : sOwn [x.enc] = some x.enc := sOwn_at h (small_ok hs)
def Tow : Tab := Tab.none.with 117 (pureS sClone)
theorem Tow_ok : TabOk Tryz.prog base Tow := Tab.with_ok Tab.none_ok clone_ok
theorem Tow_mu (f : FuncId) (a : List AVal) (H : Heap) : Tow.mu f a H = none := (rfl)
theorem Tow_fns : Tow.fn 117 = (pureS sClone) := (rfl)
theorem lown_ok : FnOk Tryz.prog base 75 (pureS sOwn) := by
 refine pure_of_vc hmix Tow_ok globNone low75 fun args z hs hf => ?_
 unfold sOwn at hs
 split at hs
 case h_2 => cases hs
 split at hs
 case h_2 => cases hs
 rename_i a x hx
 obtain ⟨rfl, wx⟩ := decF_some hx
 split at hs
 case isFalse => cases hs
 rename_i hsm
 cases hs
 unfold Fr.small at hsm
 simp only [Bool.and_eq_true, decide_eq_true_eq] at hsm
 refine ⟨by simp [lf75], ?_⟩
 have h1 := sClone_at wx.1 hsm.1
 have h2 := sClone_at wx.2 hsm.2
 simp only [Fr.enc]
 simp [lf75]
 rw [vc_regionW]
 refine ⟨[], ?_⟩
 simp [h1, h2, Tow_mu, Tow_fns]
theorem lequal_ok : FnOk Tryz.prog base 119 (pureS sSame) := by
 refine pure_of_vc hmix Tab.none_ok globNone low119 fun args z hs hf => ?_
 unfold sSame at hs
 split at hs
 case h_2 => cases hs
 rename_i xs ys
 split at hs
 case h_2 => cases hs
 rename_i a b ha hb
 obtain ⟨rfl, wa⟩ := decU_some ha
 obtain ⟨rfl, wb⟩ := decU_some hb
 cases hs
 have hlen := (hf (.lst (a.map u64)) (by simp)).lst.1
 unfold maxLen at hlen
 simp only [List.length_map] at hlen
 refine ⟨by simp [lf119], ?_⟩
 by_cases hl : a.length = b.length
 ·have hl1 : ((a.length : Int) != b.length) = false := by simp [hl]
  simp [lf119, hl1]
  simp only [lf119_B0, vc_block]
  refine loop_ind (fun fr H => ∃ i : Nat, H = [] ∧ i ≤ a.length ∧ fr 0 = .p (.lst (a.map u64)) ∧ fr 1 = .p (.lst (b.map u64)) ∧ fr 12 = .p (.int .i64 a.length) ∧ fr 13 = .p (.int .i64 i) ∧ a.take i = b.take i) (fun fr _ => a.length - ivar (fr 13)) ⟨0, rfl, by omega, by simp, by simp, by simp, by simp, by simp⟩ ?_
  rintro fr H ⟨i, rfl, hi, h0, h1, h12, h5, hj⟩
  by_cases h : i < a.length
  ·obtain ⟨u, hx⟩ : ∃ u, a[i]? = some u := ⟨_, List.getElem?_eq_getElem h⟩
   obtain ⟨v, hy⟩ : ∃ v, b[i]? = some v := ⟨_, List.getElem?_eq_getElem (show i < b.length by omega)⟩
   have hib : i < b.length := by omega
   have hnx := getE hx
   have hny := getE hy
   by_cases he : u = v
   ·subst he
    have hj' : a.take (i + 1) = b.take (i + 1) := by rw [List.take_add_one, List.take_add_one, hj, hx, hy]
    simp [h0, h1, h12, h5, h, hib, hnx, hny, wrap_succ (i := i) (by omega), ivar]
    exact ⟨⟨i + 1, by omega, rfl, hj'⟩, by omega⟩
   ·have hne : ¬ a = b := by
     rintro rfl
     rw [hx] at hy
     exact he (by cases hy; rfl)
    have hb : ((u : Int) != (v : Int)) = true := by simp; omega
    have hb2 : ((u : Int) == (v : Int)) = false := beq_false_of_ne (by omega)
    simp [h0, h1, h12, h5, h, hib, hnx, hny, hb, hb2, hne]
  ·have hil : i = a.length := by omega
   subst hil
   have hxy : a = b := by
    rw [List.take_of_length_le (Nat.le_refl _), List.take_of_length_le (by omega)] at hj
    exact hj
   simp [h0, h12, h5, hxy]
 ·have hl1 : ((a.length : Int) != b.length) = true := by simp; omega
  have hne : ¬ a = b := fun e => hl (by rw [e])
  simp [lf119, hl1, hne]
def Tal : Tab := Tab.none.with 119 (pureS sSame)
theorem Tal_ok : TabOk Tryz.prog base Tal := Tab.with_ok Tab.none_ok lequal_ok
theorem Tal_mu (f : FuncId) (a : List AVal) (H : Heap) : Tal.mu f a H = none := (rfl)
theorem Tal_fns : Tal.fn 119 = (pureS sSame) := (rfl)
theorem lalike_ok : FnOk Tryz.prog base 81 (pureS (f2 sameP)) := by
 refine pure_of_vc hmix Tal_ok globNone low81 fun args z hs hf => ?_
 obtain ⟨x, y, wx, wy, rfl, rfl⟩ := f2_some hs
 obtain ⟨s, n, d⟩ := x
 obtain ⟨t, m, e⟩ := y
 refine ⟨by simp [lf81], ?_⟩
 have h1 := sSame_list wx.1 wy.1
 have h2 := sSame_list wx.2 wy.2
 simp only at h1 h2
 simp only [Fr.enc, sameP, sameF]
 obtain ⟨q1, hq1⟩ : ∃ q, q = decide (n = m) := ⟨_, rfl⟩
 obtain ⟨q2, hq2⟩ : ∃ q, q = decide (d = e) := ⟨_, rfl⟩
 rw [← hq1] at h1 ⊢
 rw [← hq2] at h2 ⊢
 cases s <;> cases t <;> cases q1 <;> cases q2 <;> simp [lf81, h1, h2, Tal_mu, Tal_fns]
theorem sameF_iff {x y : Fr} : sameF x y = decide (x = y) := by
 obtain ⟨s, n, d⟩ := x
 obtain ⟨t, m, e⟩ := y
 unfold sameF
 rw [Bool.eq_iff_iff]
 simp [and_assoc]
end Go.Proofs.YtgbjjikaenlkmaaGreat

/-
 Slices that grow by appending, in own arrays behind known ones.
-/
namespace Go.Abs
def Grown (b size : Nat) (ty : TypeId) (es : List PVal) (x : AVal) (ex : Heap) : Prop :=
 (es = [] ∧ x = .tight []) ∨ ∃ j v, x = .own (b + j) 0 es.length v ∧ ex[j]? = some ⟨size, v, false, es.map .p, ty⟩
theorem Grown.nil (b size : Nat) (ty : TypeId) (ex : Heap) : Grown b size ty [] (.tight []) ex := .inl ⟨rfl, rfl⟩
theorem Grown.more {b size : Nat} {ty : TypeId} {es : List PVal} {x : AVal} {ex : Heap} (h : Grown b size ty es x ex) (n : Heap) : Grown b size ty es x (ex ++ n) := by
 rcases h with h | ⟨j, v, rfl, hj⟩
 ·exact .inl h
 ·exact .inr ⟨j, v, rfl, by rw [List.getElem?_append_left (List.getElem?_eq_some_iff.1 hj).1]; exact hj⟩
theorem Grown.isCell {b size : Nat} {ty : TypeId} {es : List PVal} {x : AVal} {ex : Heap} (h : Grown b size ty es x ex) : x.isCell = true ∧ x.cells = [x] ∧ x.isAgg = false := by
 rcases h with ⟨rfl, rfl⟩ | ⟨j, v, rfl, hj⟩ <;> exact ⟨rfl, rfl, rfl⟩
theorem mapO_p {H : Heap} {n : Nat} : ∀ es : List PVal, mapO (resolveV H n) (es.map .p) = some es
 | [] => rfl
 | e :: r => by
  have := mapO_p (H := H) (n := n) r
  simp only [List.map_cons, mapO, this]
  cases n <;> rfl
theorem mapO_pe {α : Type} {H : Heap} {n : Nat} {f : α → PVal} (es : List α) : mapO (resolveV H n) (es.map (AVal.p ∘ f)) = some (es.map f) := by
 rw [← List.map_map]; exact mapO_p _
theorem snoc2' {a b e : Ent} {ex s : Heap} (k : Nat) (hk : k < ex.length + 1 + 1 + 1) : (a :: b :: (ex ++ e :: s))[k]? = (a :: b :: (ex ++ [e]))[k]? := by
 rw [show a :: b :: (ex ++ e :: s) = (a :: b :: (ex ++ [e])) ++ s by simp, List.getElem?_append_left (by simpa using hk)]
theorem get3 {α : Type} (a b c : α) (ex : List α) (j : Nat) : (a :: b :: c :: ex)[3 + j]? = ex[j]? := by rw [Nat.add_comm]; rfl
theorem get2 {α : Type} (a b : α) (ex : List α) (j : Nat) : (a :: b :: ex)[2 + j]? = ex[j]? := by rw [Nat.add_comm]; rfl
theorem take_map {α β : Type} (f : α → β) (l : List α) : (l.map f).take l.length = l.map f := List.take_of_length_le (by simp)
theorem getA {α : Type} (ex r : List α) (n : Nat) : (ex ++ r)[ex.length + n]? = r[n]? := by rw [List.getElem?_append_right (by omega), Nat.add_sub_cancel_left]
theorem getA0 {α : Type} (ex r : List α) : (ex ++ r)[ex.length]? = r[0]? := getA ex r 0
theorem setA {α : Type} (ex r : List α) (n : Nat) (v : α) : (ex ++ r).set (ex.length + n) v = ex ++ r.set n v := by rw [List.set_append_right _ _ (by omega), Nat.add_sub_cancel_left]
theorem setA0 {α : Type} (ex r : List α) (v : α) : (ex ++ r).set ex.length v = ex ++ r.set 0 v := setA ex r 0 v
theorem swap3 {a b c d e : Ent} {ex : Heap} (k : Nat) (hk : k < ex.length + 1 + 1 + 1 + 1) (hn : ¬ k = ex.length + 3) : (a :: b :: c :: (ex ++ [d]))[k]? = (a :: b :: c :: (ex ++ [e]))[k]? := by
 rcases k with _ | _ | _ | k
 ·rfl
 ·rfl
 ·rfl
 ·have h : k < ex.length := by omega
  show (ex ++ [d])[k]? = (ex ++ [e])[k]?
  rw [List.getElem?_append_left h, List.getElem?_append_left h]
theorem Grown.resolve {b size : Nat} {ty : TypeId} {es : List PVal} {x : AVal} {ex pre : Heap} (h : Grown b size ty es x ex) (hb : pre.length = b) (n : Nat) : resolveV (pre ++ ex) (n + 1) x = some (.lst es) := by
 rcases h with ⟨rfl, rfl⟩ | ⟨j, v, rfl, hj⟩
 ·rfl
 ·have : (pre ++ ex)[b + j]? = some ⟨size, v, false, es.map .p, ty⟩ := by rw [List.getElem?_append_right (by omega), ← hb, Nat.add_sub_cancel_left]; exact hj
  simp only [resolveV, this, List.length_map, Nat.zero_add, Nat.le_refl, and_self, if_true, List.drop_zero]
  rw [List.take_of_length_le (by simp), mapO_p]
theorem Grown.form {b size : Nat} {ty : TypeId} {es : List PVal} {x : AVal} {ex : Heap} (h : Grown b size ty es x ex) : x = .tight [] ∨ ∃ k n v, x = .own k 0 n v := by
 rcases h with ⟨rfl, rfl⟩ | ⟨j, v, rfl, hj⟩
 ·exact .inl rfl
 ·exact .inr ⟨_, _, _, rfl⟩
theorem Grown.app {b size : Nat} {ty : TypeId} {es : List PVal} {x : AVal} {ex pre : Heap} (h : Grown b size ty es x ex) (hb : pre.length = b) {y : PVal} (hy : y.cells.length = size) (hk : y.cells.all PVal.isCell = true) (hs : 0 < size) {bytes : Nat}
  (hB : (es.length + 1) * bytes ≤ 140737488355328) (hm : es.length + 1 ≤ maxLen) :
  ∃ k v ex', appV size bytes ty x [.p y] (pre ++ ex) = some (.own k 0 (es.length + 1) v, pre ++ ex') ∧ Grown b size ty (es ++ [y]) (.own k 0 (es.length + 1) v) ex' := by
 have hc : ((AVal.p y).cells.length == size && (AVal.p y).cells.all AVal.isCell) = true := by
  simp only [AVal.cells, List.length_map, hy, beq_self_eq_true, Bool.true_and, List.all_map]
  exact hk
 have hall : ([AVal.p y].all fun y => y.cells.length == size && y.cells.all AVal.isCell) = true := by
  simp only [List.all_cons, List.all_nil, Bool.and_true]; exact hc
 rcases h with ⟨rfl, rfl⟩ | ⟨j, v, rfl, hj⟩
 ·refine ⟨b + ex.length, 0, ex ++ [⟨size, 0, false, [.p y], ty⟩], ?_, .inr ⟨ex.length, 0, rfl, by simp⟩⟩
  simp only [appV, hall, hs, and_self, if_true, List.isEmpty_nil, Bool.true_or, List.all_nil, List.length_nil, List.length_cons, Nat.zero_add, List.map_nil, List.nil_append, true_and]
  simp only [List.length_nil, Nat.zero_add] at hB hm
  rw [if_pos ⟨by simpa using hB, hm⟩]
  simp [hb]
 ·have hg : (pre ++ ex)[b + j]? = some ⟨size, v, false, es.map .p, ty⟩ := by rw [List.getElem?_append_right (by omega), ← hb, Nat.add_sub_cancel_left]; exact hj
  refine ⟨b + j, v + 1, ex.set j ⟨size, v + 1, false, es.map .p ++ [.p y], ty⟩, ?_, .inr ⟨j, v + 1, by simp, by
   have := (List.getElem?_eq_some_iff.1 hj).1
   simp [this]⟩⟩
  simp only [appV, hall, hs, and_self, if_true, hg, List.length_map, List.length_cons, List.length_nil, Nat.zero_add, true_and]
  rw [if_pos ⟨hB, hm⟩, List.set_append_right _ _ (by omega), ← hb, Nat.add_sub_cancel_left]
end Go.Abs

/-
 linear: sums that are alike; copies of parts, sums without a term; a term's number.
-/
namespace Go.Proofs.YtgbjjikaenlkmaaGreat
open Go Go.Abs Go.Limbs
variable {base : Prot}
set_option maxRecDepth 20000
attribute [local irreducible] vc
attribute [local simp] pureS touchV freezeL fuel shiftV u64 au
theorem okParts_mem : ∀ {l : List Pa} {a : Int}, okParts a l = true → ∀ x ∈ l, x.c.ok = true
 | [], _, _, x, hx => by cases hx
 | y :: r, a, h, x, hx => by
  simp only [okParts, Bool.and_eq_true] at h
  rcases List.mem_cons.1 hx with rfl | hx
  ·exact h.1.1.2
  ·exact okParts_mem h.2 x hx
theorem ok_part {p : Po} (h : p.ok = true) {x : Pa} (hx : x ∈ p.ps) : x.c.ok = true := by
 unfold Po.ok at h
 rw [Bool.and_eq_true] at h
 exact okParts_mem h.1 x hx
theorem ok_const {p : Po} (h : p.ok = true) : p.c.ok = true := by
 unfold Po.ok at h
 rw [Bool.and_eq_true] at h
 exact h.2
end Go.Proofs.YtgbjjikaenlkmaaGreat
