/-
  What linear's functions of what is one, the same, copies, places and single parts compute. What linear's multiples, sums, solutions and values compute, for at most a million parts. What the reference's functions of sums compute, for at most a million parts. What is told of ids, as law8 hands it on. Sums of fractions: the plain law. No conditions beyond the lemmas' own hypotheses.
-/
import Derived.Test.YtgbjjikaenlkmaaGreatNatH
import Derived.Test.YtgbjjikaenlkmaaGreatNatA
import Derived.Test.YtgbjjikaenlkmaaGreatAbsTwo
import Derived.Test.YtgbjjikaenlkmaaGreatProg
import Derived.KernelRfl
import Derived.Test.YtgbjjikaenlkmaaGreatAbsThree
import Derived.RangeFuncBox
import Derived.Shelf.Abstract
import Derived.WalkKit
import Derived.OwnWalkIn
import Derived.TacticsInMore
import Derived.LoopNIn
import Derived.LoopIn
set_option linter.unusedSimpArgs false
set_option linter.unnecessarySimpa false
set_option linter.unusedVariables false
set_option linter.constructorNameAsVariable false

namespace Go.Proofs.YtgbjjikaenlkmaaGreat
open Go Go.Abs Go.Limbs
variable {base : Prot}
set_option maxRecDepth 20000
attribute [local irreducible] vc
attribute [local simp] za zi freezeL fuel zk u64 au
def Tlv : Tab := (Tab.none.with 69 (za (f1 wN))).with 71 (za (f1 wG))
theorem Tlv_ok : TabOk Tryz.prog base Tlv := Tab.with_ok (Tab.with_ok Tab.none_ok mR) gJ
theorem dW (f : FuncId) (a : List AVal) (H : zb) : Tlv.mu f a H = none := (rfl)
theorem bp : Tlv.fn 69 = za (f1 wN) ∧ Tlv.fn 71 = za (f1 wG) := ⟨rfl, rfl⟩
def wE (l : List Pa) (i : Nat) : Int := match i with | 0 => -1 | j + 1 => match l[j]? with | some x => x.t | none => -1
theorem sB {l : List Pa} {i : Nat} {x : Pa} (h : l[i]? = some x) : qL (wE l i) (l.drop i) = (decide (wE l i < x.t) && x.c.ok && !decide (x.c.n = []) && qL (wE l (i + 1)) (l.drop (i + 1))) := by
 have hi := (List.getElem?_eq_some_iff.1 h).1
 rw [List.drop_eq_getElem_cons hi, zZ h, qL]
 have : wE l (i + 1) = x.t := by simp only [wE, h]
 rw [this]
theorem xD : zG Tryz.prog base 68 (za (g1 yW)) := by
 refine zd zB Tlv_ok ze low68 fun args z hs hf => ?_
 obtain ⟨p, wp, rfl, rfl⟩ := oo hs
 refine ⟨by simp [lf68], ?_⟩
 unfold yW
 have hc : f1 wN [p.c.enc] = some (.bool p.c.ok) := vF wp.2
 simp only [Po.enc, Fr.enc] at hc ⊢
 have hlen : p.ps.length ≤ 9223372036854775807 := by
  have h1 := (Fits.agg (hf _ (List.mem_singleton.2 rfl))) _ (List.mem_cons_self ..)
  have h2 := h1.lst.1
  rw [List.length_map] at h2
  exact Nat.le_trans h2 (by decide)
 simp [lf68]
 simp only [lf68_B0, zr]
 obtain ⟨bx, hbx⟩ : ∃ b : Ent, b = ⟨4, 0, false, [.p p.enc], 76⟩ := ⟨_, rfl⟩
 simp only [Po.enc] at hbx
 rw [← hbx]
 refine zo (fun fr H => ∃ i : Nat, (∃ ex : zb, H = bx :: ex) ∧ i ≤ p.ps.length ∧ qL (-1) p.ps = qL (wE p.ps i) (p.ps.drop i) ∧ -1 ≤ wE p.ps i ∧ fr 1 = .optr 0 0 0 0 ∧ fr 6 = .p (.lst (p.ps.map Pa.enc)) ∧ fr 7 = .p (.int .i64 p.ps.length) ∧ fr 8 = .p (.int .i64 i)) (fun fr _ => p.ps.length - zD (fr 8))
  ⟨0, ⟨[], rfl⟩, by omega, rfl, Int.le_refl _, by simp, by simp, by simp, by simp⟩ ?_
 rintro fr H ⟨i, ⟨ex, rfl⟩, hi, hok, hge, f1', f6, f7, f8⟩
 by_cases h1 : i < p.ps.length
 ·obtain ⟨x, hx⟩ : ∃ x, p.ps[i]? = some x := ⟨_, List.getElem?_eq_getElem h1⟩
  have wx : x.c.wf := wp.1 x (List.mem_of_getElem? hx)
  have hv : f1 wN [x.c.enc] = some (.bool x.c.ok) := vF wx
  have hsg : f1 wG [x.c.enc] = some (.int .i64 (zW x.c)) := j8 wx
  simp only [Fr.enc] at hv hsg
  have hxe := zZ hx
  have hw := zs (i := i) (by omega)
  rw [sB hx] at hok
  have hlx : wE p.ps (i + 1) = x.t := by simp only [wE, hx]
  have bad : (decide (wE p.ps i < x.t) && x.c.ok && !decide (x.c.n = [])) = false → p.ok = false := fun h => by
   unfold Po.ok
   rw [hok, h]
   rfl
  have good : (decide (wE p.ps i < x.t) && x.c.ok && !decide (x.c.n = [])) = true → qL (-1) p.ps = qL (wE p.ps (i + 1)) (p.ps.drop (i + 1)) := fun h => by rw [hok, h]; rfl
  have h0 : i = 0 ∨ ∃ j y, i = j + 1 ∧ p.ps[j]? = some y ∧ wE p.ps i = y.t := by
   cases i with
   | zero => exact .inl rfl
   | succ j =>
    obtain ⟨y, hy⟩ : ∃ y, p.ps[j]? = some y := ⟨_, List.getElem?_eq_getElem (by omega)⟩
    exact .inr ⟨j, y, rfl, hy, by simp only [wE, hy]⟩
  by_cases ha : x.t < 0
  ·have hb := bad (by rw [decide_eq_false (show ¬ wE p.ps i < x.t by omega)]; rfl)
   rw [hb]
   simp [hbx, f6, f7, f8, h1, hxe, Pa.enc, ha]
  ·rcases h0 with rfl | ⟨j, y, rfl, hy, hlt⟩
   ·have hlt : wE p.ps 0 < x.t := by show (-1 : Int) < x.t; omega
    cases hvk : x.c.ok with
    | false =>
     rw [hvk] at hv
     rw [bad (by rw [hvk]; simp)]
     simp [hbx, f6, f7, f8, h1, hxe, Pa.enc, ha, hv, dW, bp]
    | true =>
     have hsn := jP hvk
     rw [hvk] at hv
     by_cases hn : x.c.n = []
     ·rw [decide_eq_true hn] at hsn
      rw [bad (by rw [decide_eq_true hn]; simp)]
      simp [hbx, f6, f7, f8, h1, hxe, Pa.enc, ha, hv, hsg, hsn, dW, bp]
     ·rw [decide_eq_false hn] at hsn
      have hg := good (by rw [decide_eq_true hlt, hvk, decide_eq_false hn]; rfl)
      simp [hbx, f1', f6, f7, f8, h1, hxe, Pa.enc, ha, hv, hsg, hsn, zD, dW, bp]
      have w1 : IntKind.i64.wrap 1 = 1 := by decide
      rw [w1]
      exact ⟨⟨1, by omega, hg, by rw [hlx]; omega, rfl⟩, by simp; omega⟩
   ·have hj := IntWalk.i64_in (((j + 1 : Nat) : Int) - 1) (by omega)
    have hj2 : ((j + 1 : Nat) : Int) - 1 = (j : Int) := by omega
    have hj1 : j < p.ps.length := by omega
    have hye := zZ hy
    have hp0 : (0 : Int) < ((j + 1 : Nat) : Int) := by omega
    have hp0' : (0 : Int) < (j : Int) + 1 := by omega
    have hwj2 : IntKind.i64.wrap (j : Int) = (j : Int) := IntWalk.i64_in _ (by omega)
    have hp2 : (0 : Int) ≤ (j : Int) + 1 := by omega
    have hp3 : ((j : Int) + 1).toNat = j + 1 := by omega
    have h1I : (j : Int) + 1 < (p.ps.length : Int) := by omega
    have hwj : IntKind.i64.wrap ((j : Int) + 1 - 1) = (j : Int) := by rw [IntWalk.i64_in _ (by omega)]; omega
    have hw' : IntKind.i64.wrap ((j : Int) + 1 + 1) = ((j + 2 : Nat) : Int) := by rw [IntWalk.i64_in _ (by omega)]; omega
    by_cases hle : x.t ≤ y.t
    ·rw [bad (by rw [decide_eq_false (show ¬ wE p.ps (j + 1) < x.t by omega)]; rfl)]
     simp [hbx, f1', f6, f7, f8, h1, hxe, hye, hj1, h1I, hp2, hp3, hwj2, hp0', Pa.enc, ha, hle]
    ·have hltx : wE p.ps (j + 1) < x.t := by omega
     cases hvk : x.c.ok with
     | false =>
      rw [hvk] at hv
      rw [bad (by rw [hvk]; simp)]
      simp [hbx, f1', f6, f7, f8, h1, hxe, hye, hj1, h1I, hp2, hp3, hwj2, hp0', Pa.enc, ha, hle, hv, dW, bp]
     | true =>
      have hsn := jP hvk
      rw [hvk] at hv
      by_cases hn : x.c.n = []
      ·rw [decide_eq_true hn] at hsn
       rw [bad (by rw [decide_eq_true hn]; simp)]
       simp [hbx, f1', f6, f7, f8, h1, hxe, hye, hj1, h1I, hp2, hp3, hwj2, hp0', Pa.enc, ha, hle, hv, hsg, hsn, dW, bp]
      ·rw [decide_eq_false hn] at hsn
       have hg := good (by rw [decide_eq_true hltx, hvk, decide_eq_false hn]; rfl)
       simp [hbx, f1', f6, f7, f8, h1, hxe, hye, hj1, h1I, hp2, hp3, hwj2, hp0', hw', Pa.enc, ha, hle, hv, hsg, hsn, zD, dW, bp]
       exact ⟨⟨j + 1 + 1, by omega, hg, by rw [hlx]; omega, by omega⟩, by omega⟩
 ·have hil : i = p.ps.length := by omega
  subst hil
  rw [List.drop_length] at hok
  have : p.ok = p.c.ok := by unfold Po.ok; rw [hok]; rfl
  rw [this]
  simp [hbx, f1', f7, f8, hc, dW, bp]
def Fr.small (x : Fr) : Bool := decide (x.n.length ≤ 1000000) && decide (x.d.length ≤ 1000000)
def pD : List PVal → Option PVal
 | [a] => match dS a with | some x => if x.small then some x.enc else none | none => none
 | _ => none
theorem sOwn_at {x : Fr} (h : x.wf) (hs : x.small = true) : pD [x.enc] = some x.enc := by simp only [pD, jf h, hs, if_true]
theorem xn {l : List Nat} (h : Wf l) (hs : l.length ≤ 1000000) : vr [.lst (l.map u64)] = some (.lst (l.map u64)) := by
 simp only [vr, zX h, if_pos hs]; rfl
theorem small_ok {x : Fr} (h : x.ok = true) : x.small = true := by
 obtain ⟨q, hq, rfl⟩ := Fr.ok_of h
 unfold Fr.small ofQ
 have h1 : (zc q.num.natAbs).length ≤ 64 := hq.1
 have h2 : (zc q.den).length ≤ 64 := hq.2
 simp only [Bool.and_eq_true, decide_eq_true_eq]
 omega
theorem gC {x : Fr} (h : x.wf) (hs : x.ok = true) : pD [x.enc] = some x.enc := sOwn_at h (small_ok hs)
def Tow : Tab := Tab.none.with 117 (za vr)
theorem Tow_ok : TabOk Tryz.prog base Tow := Tab.with_ok Tab.none_ok yv
theorem Tow_mu (f : FuncId) (a : List AVal) (H : zb) : Tow.mu f a H = none := (rfl)
theorem Tow_fns : Tow.fn 117 = (za vr) := (rfl)
theorem fZ : zG Tryz.prog base 75 (za pD) := by
 refine zd zB Tow_ok ze low75 fun args z hs hf => ?_
 unfold pD at hs
 split at hs
 case h_2 => cases hs
 split at hs
 case h_2 => cases hs
 rename_i a x hx
 obtain ⟨rfl, wx⟩ := vn hx
 split at hs
 case isFalse => cases hs
 rename_i hsm
 cases hs
 unfold Fr.small at hsm
 simp only [Bool.and_eq_true, decide_eq_true_eq] at hsm
 refine ⟨by simp [lf75], ?_⟩
 have h1 := xn wx.1 hsm.1
 have h2 := xn wx.2 hsm.2
 simp only [Fr.enc]
 simp [lf75]
 rw [zu]
 refine ⟨[], ?_⟩
 simp [h1, h2, Tow_mu, Tow_fns]
theorem lequal_ok : zG Tryz.prog base 119 (za dc) := by
 refine zd zB Tab.none_ok ze low119 fun args z hs hf => ?_
 unfold dc at hs
 split at hs
 case h_2 => cases hs
 rename_i xs ys
 split at hs
 case h_2 => cases hs
 rename_i a b ha hb
 obtain ⟨rfl, wa⟩ := zI ha
 obtain ⟨rfl, wb⟩ := zI hb
 cases hs
 have hlen := (hf (.lst (a.map u64)) (by simp)).lst.1
 unfold maxLen at hlen
 simp only [List.length_map] at hlen
 refine ⟨by simp [lf119], ?_⟩
 by_cases hl : a.length = b.length
 ·have hl1 : ((a.length : Int) != b.length) = false := by simp [hl]
  simp [lf119, hl1]
  simp only [lf119_B0, zr]
  refine zo (fun fr H => ∃ i : Nat, H = [] ∧ i ≤ a.length ∧ fr 0 = .p (.lst (a.map u64)) ∧ fr 1 = .p (.lst (b.map u64)) ∧ fr 12 = .p (.int .i64 a.length) ∧ fr 13 = .p (.int .i64 i) ∧ a.take i = b.take i) (fun fr _ => a.length - zD (fr 13)) ⟨0, rfl, by omega, by simp, by simp, by simp, by simp, by simp⟩ ?_
  rintro fr H ⟨i, rfl, hi, h0, h1, h12, h5, hj⟩
  by_cases h : i < a.length
  ·obtain ⟨u, hx⟩ : ∃ u, a[i]? = some u := ⟨_, List.getElem?_eq_getElem h⟩
   obtain ⟨v, hy⟩ : ∃ v, b[i]? = some v := ⟨_, List.getElem?_eq_getElem (show i < b.length by omega)⟩
   have hib : i < b.length := by omega
   have hnx := zZ hx
   have hny := zZ hy
   by_cases he : u = v
   ·subst he
    have hj' : a.take (i + 1) = b.take (i + 1) := by rw [List.take_add_one, List.take_add_one, hj, hx, hy]
    simp [h0, h1, h12, h5, h, hib, hnx, hny, zs (i := i) (by omega), zD]
    exact ⟨⟨i + 1, by omega, rfl, hj'⟩, by omega⟩
   ·have hne : ¬ a = b := by
     rintro rfl
     rw [hx] at hy
     exact he (by cases hy; rfl)
    have hb : ((u : Int) != (v : Int)) = true := by simp; omega
    have hb2 : ((u : Int) == (v : Int)) = false := beq_false_of_ne (by omega)
    simp [h0, h1, h12, h5, h, hib, hnx, hny, hb, hne]
  ·have hil : i = a.length := by omega
   subst hil
   have hxy : a = b := by
    rw [List.take_of_length_le (Nat.le_refl _), List.take_of_length_le (by omega)] at hj
    exact hj
   simp [h12, h5, hxy]
 ·have hl1 : ((a.length : Int) != b.length) = true := by simp; omega
  have hne : ¬ a = b := fun e => hl (by rw [e])
  simp [lf119, hl1, hne]
def Tal : Tab := Tab.none.with 119 (za dc)
theorem Tal_ok : TabOk Tryz.prog base Tal := Tab.with_ok Tab.none_ok lequal_ok
theorem Tal_mu (f : FuncId) (a : List AVal) (H : zb) : Tal.mu f a H = none := (rfl)
theorem Tal_fns : Tal.fn 119 = (za dc) := (rfl)
theorem lalike_ok : zG Tryz.prog base 81 (za (f2 vX)) := by
 refine zd zB Tal_ok ze low81 fun args z hs hf => ?_
 obtain ⟨x, y, wx, wy, rfl, rfl⟩ := uT hs
 obtain ⟨s, n, d⟩ := x
 obtain ⟨t, m, e⟩ := y
 refine ⟨by simp [lf81], ?_⟩
 have h1 := yI wx.1 wy.1
 have h2 := yI wx.2 wy.2
 simp only at h1 h2
 simp only [Fr.enc, vX, xb]
 obtain ⟨q1, hq1⟩ : ∃ q, q = decide (n = m) := ⟨_, rfl⟩
 obtain ⟨q2, hq2⟩ : ∃ q, q = decide (d = e) := ⟨_, rfl⟩
 rw [← hq1] at h1 ⊢
 rw [← hq2] at h2 ⊢
 cases s <;> cases t <;> cases q1 <;> cases q2 <;> simp [lf81, h1, h2, Tal_mu, Tal_fns]
end Go.Proofs.YtgbjjikaenlkmaaGreat

namespace Go.Abs
def Grown (b size : Nat) (ty : TypeId) (es : List PVal) (x : AVal) (ex : zb) : Prop :=
 (es = [] ∧ x = .tight []) ∨ ∃ j v, x = .own (b + j) 0 es.length v ∧ ex[j]? = some ⟨size, v, false, es.map .p, ty⟩
theorem Grown.nil (b size : Nat) (ty : TypeId) (ex : zb) : Grown b size ty [] (.tight []) ex := .inl ⟨rfl, rfl⟩
theorem Grown.more {b size : Nat} {ty : TypeId} {es : List PVal} {x : AVal} {ex : zb} (h : Grown b size ty es x ex) (n : zb) : Grown b size ty es x (ex ++ n) := by
 rcases h with h | ⟨j, v, rfl, hj⟩
 ·exact .inl h
 ·exact .inr ⟨j, v, rfl, by rw [List.getElem?_append_left (List.getElem?_eq_some_iff.1 hj).1]; exact hj⟩
theorem Grown.isCell {b size : Nat} {ty : TypeId} {es : List PVal} {x : AVal} {ex : zb} (h : Grown b size ty es x ex) : x.isCell = true ∧ x.cells = [x] ∧ x.isAgg = false := by
 rcases h with ⟨rfl, rfl⟩ | ⟨j, v, rfl, hj⟩ <;> exact ⟨rfl, rfl, rfl⟩
theorem mapO_p {H : zb} {n : Nat} : ∀ es : List PVal, zP (zj H n) (es.map .p) = some es
 | [] => rfl
 | e :: r => by
  have := mapO_p (H := H) (n := n) r
  simp only [List.map_cons, zP, this]
  cases n <;> rfl
theorem fY {α : Type} {H : zb} {n : Nat} {f : α → PVal} (es : List α) : zP (zj H n) (es.map (AVal.p ∘ f)) = some (es.map f) := by
 rw [← List.map_map]; exact mapO_p _
theorem snoc3 {a b c : Ent} {ex s : zb} (k : Nat) (hk : k < ex.length + 1 + 1 + 1) : (a :: b :: c :: (ex ++ s))[k]? = (a :: b :: c :: ex)[k]? := by
 rw [show a :: b :: c :: (ex ++ s) = (a :: b :: c :: ex) ++ s from rfl, List.getElem?_append_left (by simpa using hk)]
theorem snoc2' {a b e : Ent} {ex s : zb} (k : Nat) (hk : k < ex.length + 1 + 1 + 1) : (a :: b :: (ex ++ e :: s))[k]? = (a :: b :: (ex ++ [e]))[k]? := by
 rw [show a :: b :: (ex ++ e :: s) = (a :: b :: (ex ++ [e])) ++ s by simp, List.getElem?_append_left (by simpa using hk)]
theorem get3 {α : Type} (a b c : α) (ex : List α) (j : Nat) : (a :: b :: c :: ex)[3 + j]? = ex[j]? := by rw [Nat.add_comm]; rfl
theorem get2 {α : Type} (a b : α) (ex : List α) (j : Nat) : (a :: b :: ex)[2 + j]? = ex[j]? := by rw [Nat.add_comm]; rfl
theorem jN {α β : Type} (f : α → β) (l : List α) : (l.map f).take l.length = l.map f := List.take_of_length_le (by simp)
theorem swap3 {a b c d e : Ent} {ex : zb} (k : Nat) (hk : k < ex.length + 1 + 1 + 1 + 1) (hn : ¬ k = ex.length + 3) : (a :: b :: c :: (ex ++ [d]))[k]? = (a :: b :: c :: (ex ++ [e]))[k]? := by
 rcases k with _ | _ | _ | k
 ·rfl
 ·rfl
 ·rfl
 ·have h : k < ex.length := by omega
  show (ex ++ [d])[k]? = (ex ++ [e])[k]?
  rw [List.getElem?_append_left h, List.getElem?_append_left h]
theorem Grown.resolve {b size : Nat} {ty : TypeId} {es : List PVal} {x : AVal} {ex pre : zb} (h : Grown b size ty es x ex) (hb : pre.length = b) (n : Nat) : zj (pre ++ ex) (n + 1) x = some (.lst es) := by
 rcases h with ⟨rfl, rfl⟩ | ⟨j, v, rfl, hj⟩
 ·rfl
 ·have : (pre ++ ex)[b + j]? = some ⟨size, v, false, es.map .p, ty⟩ := by rw [List.getElem?_append_right (by omega), ← hb, Nat.add_sub_cancel_left]; exact hj
  simp only [zj, this, List.length_map, Nat.zero_add, Nat.le_refl, and_self, if_true, List.drop_zero]
  rw [List.take_of_length_le (by simp), mapO_p]
theorem Grown.form {b size : Nat} {ty : TypeId} {es : List PVal} {x : AVal} {ex : zb} (h : Grown b size ty es x ex) : x = .tight [] ∨ ∃ k n v, x = .own k 0 n v := by
 rcases h with ⟨rfl, rfl⟩ | ⟨j, v, rfl, hj⟩
 ·exact .inl rfl
 ·exact .inr ⟨_, _, _, rfl⟩
theorem Grown.app {b size : Nat} {ty : TypeId} {es : List PVal} {x : AVal} {ex pre : zb} (h : Grown b size ty es x ex) (hb : pre.length = b) {y : PVal} (hy : y.cells.length = size) (hk : y.cells.all PVal.isCell = true) (hs : 0 < size) {bytes : Nat}
  (hB : (es.length + 1) * bytes ≤ 140737488355328) (hm : es.length + 1 ≤ maxLen) :
  ∃ k v ex', qC size bytes ty x [.p y] (pre ++ ex) = some (.own k 0 (es.length + 1) v, pre ++ ex') ∧ Grown b size ty (es ++ [y]) (.own k 0 (es.length + 1) v) ex' := by
 have hc : ((AVal.p y).cells.length == size && (AVal.p y).cells.all AVal.isCell) = true := by
  simp only [AVal.cells, List.length_map, hy, beq_self_eq_true, Bool.true_and, List.all_map]
  exact hk
 have hall : ([AVal.p y].all fun y => y.cells.length == size && y.cells.all AVal.isCell) = true := by
  simp only [List.all_cons, List.all_nil, Bool.and_true]; exact hc
 rcases h with ⟨rfl, rfl⟩ | ⟨j, v, rfl, hj⟩
 ·refine ⟨b + ex.length, 0, ex ++ [⟨size, 0, false, [.p y], ty⟩], ?_, .inr ⟨ex.length, 0, rfl, by simp⟩⟩
  simp only [qC, hall, hs, and_self, if_true, List.isEmpty_nil, Bool.true_or, List.all_nil, List.length_nil, List.length_cons, Nat.zero_add, List.map_nil, List.nil_append, true_and]
  simp only [List.length_nil, Nat.zero_add] at hB hm
  rw [if_pos ⟨by simpa using hB, hm⟩]
  simp [hb]
 ·have hg : (pre ++ ex)[b + j]? = some ⟨size, v, false, es.map .p, ty⟩ := by rw [List.getElem?_append_right (by omega), ← hb, Nat.add_sub_cancel_left]; exact hj
  refine ⟨b + j, v + 1, ex.set j ⟨size, v + 1, false, es.map .p ++ [.p y], ty⟩, ?_, .inr ⟨j, v + 1, by simp, by
   have := (List.getElem?_eq_some_iff.1 hj).1
   simp [this]⟩⟩
  simp only [qC, hall, hs, and_self, if_true, hg, List.length_map, List.length_cons, List.length_nil, Nat.zero_add, true_and]
  rw [if_pos ⟨hB, hm⟩, List.set_append_right _ _ (by omega), ← hb, Nat.add_sub_cancel_left]
end Go.Abs

namespace Go.Proofs.YtgbjjikaenlkmaaGreat
open Go Go.Abs Go.Limbs
variable {base : Prot}
set_option maxRecDepth 20000
attribute [local irreducible] vc
attribute [local simp] za zi freezeL fuel zk u64 au
theorem nO : ∀ {l : List Pa} {a : Int}, qL a l = true → ∀ x ∈ l, x.c.ok = true
 | [], _, _, x, hx => by cases hx
 | y :: r, a, h, x, hx => by
  simp only [qL, Bool.and_eq_true] at h
  rcases List.mem_cons.1 hx with rfl | hx
  ·exact h.1.1.2
  ·exact nO h.2 x hx
theorem yV {p : Po} (h : p.ok = true) {x : Pa} (hx : x ∈ p.ps) : x.c.ok = true := by
 unfold Po.ok at h
 rw [Bool.and_eq_true] at h
 exact nO h.1 x hx
theorem uA {p : Po} (h : p.ok = true) : p.c.ok = true := by
 unfold Po.ok at h
 rw [Bool.and_eq_true] at h
 exact h.2
def Tsc : Tab := (((((Tab.none.with 68 (za (g1 yW))).with 69 (za (f1 wN))).with 70 (za (f2 cX))).with 71 (za (f1 wG))).with 74 (za (f2 cZ))).with 75 (za pD)
theorem Tsc_ok : TabOk Tryz.prog base Tsc := Tab.with_ok (Tab.with_ok (Tab.with_ok (Tab.with_ok (Tab.with_ok (Tab.with_ok Tab.none_ok xD) mR) qmul_ok) gJ) qadd_ok) fZ
theorem vu (f : FuncId) (a : List AVal) (H : zb) : Tsc.mu f a H = none := (rfl)
theorem qV : Tsc.fn 68 = (za (g1 yW)) ∧ Tsc.fn 69 = (za (f1 wN)) ∧ Tsc.fn 70 = (za (f2 cX)) ∧ Tsc.fn 71 = (za (f1 wG)) ∧ Tsc.fn 74 = (za (f2 cZ)) ∧ Tsc.fn 75 = (za pD) := ⟨rfl, rfl, rfl, rfl, rfl, rfl⟩
theorem len_ps {p : Po} (hf : Fits p.enc) : p.ps.length ≤ 9223372036854775807 := by
 have h1 := (Fits.agg hf) _ (List.mem_cons_self ..)
 have h2 := h1.lst.1
 rw [List.length_map] at h2
 exact Nat.le_trans h2 (by decide)
theorem eO {k : Fr} {l : List Pa} {i : Nat} {x : Pa} (hx : l[i]? = some x) : kM k (l.drop i) = if (vZ x.c k).2 = 0 then (kM k (l.drop (i + 1))).map (⟨(vZ x.c k).1, x.t⟩ :: ·) else none := by
 have hi := (List.getElem?_eq_some_iff.1 hx).1
 rw [List.drop_eq_getElem_cons hi, zZ hx]
 rfl
theorem fW {x y : Fr} (hx : x.wf) (hy : y.wf) : f2 cX [x.enc, y.enc] = some (.tup [(vZ x y).1.enc, .int .i64 (vZ x y).2]) := pe hx hy
theorem oQ {x y : Fr} (hx : x.wf) (hy : y.wf) : f2 cZ [x.enc, y.enc] = some (.tup [(v9 x y).1.enc, .int .i64 (v9 x y).2]) := pe hx hy
theorem sD {x y : Fr} (hx : x.ok = true) (hy : y.ok = true) : (vZ x y).2 = 0 ∨ vZ x y = (zF, 4) := by
 unfold vZ qG
 rw [hx, hy]
 simp only [Bool.and_self, if_true]
 split
 ·exact .inl rfl
 ·exact .inr rfl
theorem tk {x y : Fr} (hx : x.ok = true) (hy : y.ok = true) : (v9 x y).2 = 0 ∨ v9 x y = (zF, 4) := by
 unfold v9 qG
 rw [hx, hy]
 simp only [Bool.and_self, if_true]
 split
 ·exact .inl rfl
 ·exact .inr rfl
def bF (p : Po) (k : Fr) : PVal := mT (kx p k)
theorem eN : zG Tryz.prog base 41 (za (gks bF)) := by
 refine zd zB Tsc_ok ze low41 fun args z hs hf => ?_
 obtain ⟨p, k, wp, wk, fp, rfl, rfl⟩ := gks_some hs
 refine ⟨by simp [lf41], ?_⟩
 have hlen := sZ fp
 have v1 : g1 yW [p.enc] = some (.bool p.ok) := sU wp
 have v2 := vF wk
 have v3 := fW wp.2 wk
 have v4 : f1 wG [k.enc] = some (.int .i64 (zW k)) := j8 wk
 unfold bF mT kx
 cases hp : p.ok with
 | false =>
  rw [hp] at v1
  simp only [Po.enc, Fr.enc] at v1 ⊢
  simp [lf41, v1, vu, qV, zPo, zF]
 | true =>
 rw [hp] at v1
 cases hk : k.ok with
 | false =>
  rw [hk] at v2
  simp only [Po.enc, Fr.enc] at v1 v2 ⊢
  simp [lf41, v1, v2, vu, qV, zPo, zF]
 | true =>
 rw [hk] at v2
 rcases sD (uA hp) hk with he | he
 case inr =>
  rw [he] at v3
  simp only [Po.enc, Fr.enc, zF] at v1 v2 v3 ⊢
  simp [lf41, v1, v2, v3, he, vu, qV, zPo, zF]
 rw [he] at v3
 have hsn := jP hk
 obtain ⟨c, hc⟩ : ∃ c, c = (vZ p.c k).1 := ⟨_, rfl⟩
 have wc : c.wf := by rw [hc]; exact dZ _ _
 rw [← hc] at v3 ⊢
 simp only [he, Bool.and_self, if_true]
 by_cases hk0 : k.n = []
 ·rw [decide_eq_true hk0] at hsn
  rw [if_pos hk0]
  simp only [Po.enc, Fr.enc] at v1 v2 v3 v4 ⊢
  simp [lf41, v1, v2, v3, v4, hsn, vu, qV]
 rw [decide_eq_false hk0] at hsn
 rw [if_neg hk0]
 obtain ⟨r, hr⟩ : ∃ r : Po × Nat, r = da c (kM k p.ps) := ⟨_, rfl⟩
 rw [← hr]
 have hm := yl
 simp only [Po.enc, Fr.enc] at v1 v2 v3 v4 ⊢
 simp [lf41, v1, v2, v3, v4, hsn, vu, qV]
 simp only [lf41_B0, zr]
 refine zo (fun fr H => ∃ (i : Nat) (es : List Pa) (x : AVal) (ex : zb), H = ⟨4, 0, false, [.p p.enc], 76⟩ :: ⟨3, 0, false, [.p k.enc], 33⟩ :: ⟨4, 0, false, [.agg [x, .p (.bool c.s), .p (.lst (c.n.map u64)), .p (.lst (c.d.map u64))]], 76⟩ :: ex ∧
   i ≤ p.ps.length ∧ es.length = i ∧ Grown 3 4 93 (es.map Pa.enc) x ex ∧ kM k p.ps = (kM k (p.ps.drop i)).map (es ++ ·) ∧
   fr 3 = .optr 1 0 0 0 ∧ fr 4 = .optr 2 0 0 0 ∧ fr 34 = .p (.lst (p.ps.map Pa.enc)) ∧ fr 35 = .p (.int .i64 p.ps.length) ∧ fr 36 = .p (.int .i64 i)) (fun fr _ => p.ps.length - zD (fr 36))
  ⟨0, [], .tight [], [], by simp [Po.enc, Fr.enc], by omega, rfl, .nil _ _ _ _, by simp, by simp, by simp, by simp, by simp, by simp⟩ ?_
 rintro fr H ⟨i, es, x, ex, rfl, hi, hes, hg, hsc, f3, f4, f34, f35, f36⟩
 have hgc := hg
 by_cases h1 : i < p.ps.length
 ·obtain ⟨y, hy⟩ : ∃ y, p.ps[i]? = some y := ⟨_, List.getElem?_eq_getElem h1⟩
  have wy : y.c.wf := wp.1 y (List.mem_of_getElem? hy)
  have hye := zZ hy
  have hm := fW wy wk
  rw [eO hy] at hsc
  have hw := zs (i := i) (by omega)
  rcases sD (yV hp (List.mem_of_getElem? hy)) hk with he | he
  case inr =>
   rw [he] at hm hsc
   simp only [Fr.enc, zF] at hm
   simp only [show ¬ (4 = 0) by decide, if_false] at hsc
   rw [hsc] at hr
   rcases hg.form with rfl | ⟨kk, nn, vv, rfl⟩ <;> simp [f3, f4, f34, f35, f36, h1, hye, Pa.enc, Po.enc, Fr.enc, hm, hr, da, zPo, zF, vu, qV]
  obtain ⟨d, hd⟩ : ∃ d, d = (vZ y.c k).1 := ⟨_, rfl⟩
  rw [he, ← hd] at hm
  rw [he, ← hd, if_pos rfl] at hsc
  obtain ⟨k', v', ex', happ, hg'⟩ := (hg.more [⟨4, 0, false, [.p (.agg [.bool d.s, .lst (d.n.map u64), .lst (d.d.map u64), .int .i64 y.t])], 93⟩, ⟨4, 0, false, [.p (.agg [.bool d.s, .lst (d.n.map u64), .lst (d.d.map u64), .int .i64 y.t])], 93⟩]).app
   (pre := [⟨4, 0, false, [.p p.enc], 76⟩, ⟨3, 0, false, [.p k.enc], 33⟩, ⟨4, 0, false, [.agg [x, .p (.bool c.s), .p (.lst (c.n.map u64)), .p (.lst (c.d.map u64))]], 76⟩]) rfl (y := (⟨d, y.t⟩ : Pa).enc) rfl rfl (by omega) (bytes := 64) (by simp; omega) (by simp; omega)
  simp only [Fr.enc] at hm
  simp only [Po.enc, Fr.enc, Pa.enc, List.cons_append, List.nil_append] at happ
  rcases hg.form with rfl | ⟨kk, nn, vv, rfl⟩ <;> simp [f3, f4, f34, f35, f36, h1, hye, Pa.enc, Po.enc, Fr.enc, hm, vu, qV, zN, -qC, happ, hw, zD]
  all_goals
   exact ⟨⟨i + 1, es ++ [⟨d, y.t⟩], _, _, ⟨rfl, rfl⟩, by omega, by simp [hes], by simpa [Pa.enc] using hg', by rw [hsc, Option.map_map]; congr 1; funext m; simp, by omega⟩, by omega⟩
 ·have hil : i = p.ps.length := by omega
  rw [hil, List.drop_length] at hsc
  simp only [kM, Option.map_some, List.append_nil] at hsc
  rw [hsc] at hr
  rcases hg with ⟨he, rfl⟩ | ⟨j, v, rfl, hj⟩
  ·have : es = [] := by simpa using he
   subst this
   simp [f4, f35, f36, h1, hr, da, Po.enc, Fr.enc]
  ·simp [f4, f35, f36, h1, hr, hj, get3, fY, jN, da, Po.enc, Fr.enc]
def iX (p q : Po) : PVal := mT (iW p q)
theorem vR (a b c d : PVal) (l : List Pa) : u3 4 (.agg [a, b, c, d] :: l.map Pa.enc) = true := by
 unfold u3
 simp only [List.all_cons, List.all_map, Bool.and_eq_true]
 exact ⟨rfl, List.all_eq_true.2 fun x _ => rfl⟩
theorem merge_lt {x y : Pa} {l r : List Pa} (h : x.t < y.t) : qJ (x :: l) (y :: r) = (qJ l (y :: r)).map (x :: ·) := by rw [qJ, if_pos h]
theorem merge_gt {x y : Pa} {l r : List Pa} (h : y.t < x.t) : qJ (x :: l) (y :: r) = (qJ (x :: l) r).map (y :: ·) := by rw [qJ, if_neg (by omega), if_pos h]
theorem merge_eq {x y : Pa} {l r : List Pa} (h : x.t = y.t) : qJ (x :: l) (y :: r) = if (v9 x.c y.c).2 = 0 then (qJ l r).map (fun m => if (v9 x.c y.c).1.n = [] then m else ⟨(v9 x.c y.c).1, x.t⟩ :: m) else none := by
 rw [qJ, if_neg (by omega), if_neg (by omega)]
theorem cK (r : List Pa) : qJ [] r = some r := by rw [qJ]
theorem sI (x : Pa) (l : List Pa) : qJ (x :: l) [] = some (x :: l) := by rw [qJ]
theorem map_app {es : List Pa} {z : Pa} {o : Option (List Pa)} : (o.map (z :: ·)).map (es ++ ·) = o.map (es ++ [z] ++ ·) := by
 rw [Option.map_map]; congr 1; funext m; simp
theorem ok_addF {x y : Fr} (h : (v9 x y).2 = 0) : (v9 x y).1.ok = true := by
 unfold v9 qG at h ⊢
 split at h
 ·split at h
  ·rename_i h1 h2
   rw [if_pos h1, if_pos h2]
   exact vH h2
  ·cases h
 ·cases h
theorem sA : ∀ {l : List Pa} {a : Int}, qL a l = true → ∀ x ∈ l, x.c.n ≠ []
 | [], _, _, x, hx => by cases hx
 | y :: r, a, h, x, hx => by
  simp only [qL, Bool.and_eq_true, Bool.not_eq_true', decide_eq_false_iff_not] at h
  rcases List.mem_cons.1 hx with rfl | hx
  ·exact h.1.2
  ·exact sA h.2 x hx
theorem nz_part {p : Po} (h : p.ok = true) {x : Pa} (hx : x ∈ p.ps) : x.c.n ≠ [] := by
 unfold Po.ok at h
 rw [Bool.and_eq_true] at h
 exact sA h.1 x hx
theorem ladd_ok : zG Tryz.prog base 44 (za (g2s iX)) := by
 refine zd zB Tsc_ok ze low44 fun args z hs hf => ?_
 obtain ⟨p, q, wp, wq, fp, fq, rfl, rfl⟩ := g2s_some hs
 refine ⟨by simp [lf44], ?_⟩
 have hlp := sZ fp
 have hlq := sZ fq
 have v1 : g1 yW [p.enc] = some (.bool p.ok) := sU wp
 have v2 : g1 yW [q.enc] = some (.bool q.ok) := sU wq
 have v3 := oQ wp.2 wq.2
 unfold iX mT iW
 cases hp : p.ok with
 | false =>
  rw [hp] at v1
  simp only [Po.enc] at v1 ⊢
  simp [lf44, v1, vu, qV, zPo, zF]
 | true =>
 rw [hp] at v1
 cases hq : q.ok with
 | false =>
  rw [hq] at v2
  simp only [Po.enc] at v1 v2 ⊢
  simp [lf44, v1, v2, vu, qV, zPo, zF]
 | true =>
 rw [hq] at v2
 rcases tk (uA hp) (uA hq) with he | he
 case inr =>
  rw [he] at v3
  simp only [Po.enc, Fr.enc, zF] at v1 v2 v3 ⊢
  simp [lf44, v1, v2, v3, he, vu, qV, zPo, zF]
 rw [he] at v3
 obtain ⟨c, hc⟩ : ∃ c, c = (v9 p.c q.c).1 := ⟨_, rfl⟩
 rw [← hc] at v3 ⊢
 simp only [he, Bool.and_self, if_true]
 obtain ⟨r, hr⟩ : ∃ r : Po × Nat, r = da c (qJ p.ps q.ps) := ⟨_, rfl⟩
 rw [← hr]
 have hm := yl
 simp only [Po.enc, Fr.enc] at v1 v2 v3 ⊢
 simp [lf44, v1, v2, v3, vu, qV]
 simp only [lf44_B0, zr]
 refine zo (fun fr H => ∃ (l m : List Pa) (es : List Pa) (x : AVal) (ex : zb), H = ⟨4, 0, false, [.p p.enc], 76⟩ :: ⟨4, 0, false, [.p q.enc], 76⟩ :: ⟨4, 0, false, [.agg [x, .p (.bool c.s), .p (.lst (c.n.map u64)), .p (.lst (c.d.map u64))]], 76⟩ :: ex ∧
   es.length + l.length + m.length ≤ 2000000 ∧ Grown 3 4 93 (es.map Pa.enc) x ex ∧ qJ p.ps q.ps = (qJ l m).map (es ++ ·) ∧ (∀ x ∈ l, x.wf ∧ x.c.ok = true ∧ x.c.n ≠ []) ∧ (∀ x ∈ m, x.wf ∧ x.c.ok = true ∧ x.c.n ≠ []) ∧
   fr 4 = .optr 2 0 0 0 ∧ fr 6 = .p (.lst (l.map Pa.enc)) ∧ fr 7 = .p (.lst (m.map Pa.enc))) (fun fr _ => (match fr 6, fr 7 with | .p (.lst a), .p (.lst b) => a.length + b.length | _, _ => 0))
  ⟨p.ps, q.ps, [], .tight [], [], by simp [Po.enc], by simp; omega, .nil _ _ _ _, by simp, fun x hx => ⟨wp.1 x hx, yV hp hx, nz_part hp hx⟩, fun x hx => ⟨wq.1 x hx, yV hq hx, nz_part hq hx⟩, by simp, by simp, by simp⟩ ?_
 rintro fr H ⟨l, m, es, x, ex, rfl, hlen, hg, hmg, okl, okm, f4, f6, f7⟩
 -- one part more
 have more : ∀ (d : Fr) (t : Int) (es2 : List Pa), es2 = es ++ [⟨d, t⟩] → es.length + 1 ≤ 2000000 → ∃ k' v' ex', qC 4 64 93 x [.p (.agg [.bool d.s, .lst (d.n.map u64), .lst (d.d.map u64), .int .i64 t])] (⟨4, 0, false, [.p p.enc], 76⟩ :: ⟨4, 0, false, [.p q.enc], 76⟩ :: ⟨4, 0, false, [.agg [x, .p (.bool c.s), .p (.lst (c.n.map u64)), .p (.lst (c.d.map u64))]], 76⟩ :: (ex ++
   [⟨4, 0, false, [.p (.agg [.bool d.s, .lst (d.n.map u64), .lst (d.d.map u64), .int .i64 t])], 93⟩, ⟨4, 0, false, [.p (.agg [.bool d.s, .lst (d.n.map u64), .lst (d.d.map u64), .int .i64 t])], 93⟩])) =
    some (.own k' 0 (es.length + 1) v', ⟨4, 0, false, [.p p.enc], 76⟩ :: ⟨4, 0, false, [.p q.enc], 76⟩ :: ⟨4, 0, false, [.agg [x, .p (.bool c.s), .p (.lst (c.n.map u64)), .p (.lst (c.d.map u64))]], 76⟩ :: ex') ∧ Grown 3 4 93 (es2.map Pa.enc) (.own k' 0 (es.length + 1) v') ex' := by
  intro d t es2 h2 hle
  obtain ⟨k', v', ex', happ, hg'⟩ := (hg.more [⟨4, 0, false, [.p (.agg [.bool d.s, .lst (d.n.map u64), .lst (d.d.map u64), .int .i64 t])], 93⟩, ⟨4, 0, false, [.p (.agg [.bool d.s, .lst (d.n.map u64), .lst (d.d.map u64), .int .i64 t])], 93⟩]).app
   (pre := [⟨4, 0, false, [.p p.enc], 76⟩, ⟨4, 0, false, [.p q.enc], 76⟩, ⟨4, 0, false, [.agg [x, .p (.bool c.s), .p (.lst (c.n.map u64)), .p (.lst (c.d.map u64))]], 76⟩]) rfl (y := (⟨d, t⟩ : Pa).enc) rfl rfl (by omega) (bytes := 64) (by simp; omega) (by simp; omega)
  rw [List.length_map] at happ hg'
  exact ⟨k', v', ex', happ, by subst h2; simpa using hg'⟩
 cases l with
 | nil =>
  cases m with
  | nil =>
   rw [cK] at hmg
   simp only [Option.map_some, List.append_nil] at hmg
   rw [hmg] at hr
   rcases hg with ⟨he, rfl⟩ | ⟨j, v, rfl, hj⟩
   ·have : es = [] := by simpa using he
    subst this
    simp [f4, f6, f7, hr, da, Po.enc]
   ·simp [f4, f6, f7, hr, hj, get3, fY, jN, da, Po.enc]
  | cons y m =>
   obtain ⟨wy, oy, ny⟩ := okm y (by simp)
   have v5 := gC wy oy
   have v6 : f1 wG [y.c.enc] = some (.int .i64 (zW y.c)) := j8 wy
   have v7 := jP oy
   rw [decide_eq_false ny] at v7
   have v8 : (zW y.c != 0) = true := by rw [bne, v7]; rfl
   simp only [Fr.enc] at v5 v6
   have hp1 : (0 : Int) < (m.length : Int) + 1 := by omega
   have hp2 : ((m.length : Int) + 1 == 0) = false := by simp; omega
   have hp3 : (1 : Int) ≤ (m.length : Int) + 1 := by omega
   simp only [List.length_nil, List.length_cons] at hlen
   obtain ⟨k', v', ex', happ, hg'⟩ := more y.c y.t _ rfl (by omega)
   rcases hg.form with rfl | ⟨kk, nn, vv, rfl⟩
   all_goals
    simp [f6, f7, hp1, hp2, Pa.enc]
    rw [zu]
    refine ⟨[ex.length + 3], ?_⟩
    simp only [Po.enc] at happ
    simp [f4, f6, f7, Pa.enc, Po.enc, v5, v6, v8, hp3, vR, jN, zN, -qC, happ, vu, qV]
    exact ⟨swap3, [], m, es ++ [y], _, _, ⟨rfl, rfl⟩, by simp; omega, hg', by rw [hmg, cK, cK]; simp, by simp, fun z hz => okm z (by simp [hz]), rfl, rfl⟩
 | cons u l =>
  obtain ⟨wu, ou, nu⟩ := okl u (by simp)
  have u5 := gC wu ou
  have u6 : f1 wG [u.c.enc] = some (.int .i64 (zW u.c)) := j8 wu
  have u7 := jP ou
  rw [decide_eq_false nu] at u7
  have u8 : (zW u.c != 0) = true := by rw [bne, u7]; rfl
  simp only [Fr.enc] at u5 u6
  have hl1 : (0 : Int) < (l.length : Int) + 1 := by omega
  have hl2 : ((l.length : Int) + 1 == 0) = false := by simp; omega
  have hl3 : (1 : Int) ≤ (l.length : Int) + 1 := by omega
  cases m with
  | nil =>
   simp only [List.length_nil, List.length_cons] at hlen
   obtain ⟨k', v', ex', happ, hg'⟩ := more u.c u.t _ rfl (by omega)
   rcases hg.form with rfl | ⟨kk, nn, vv, rfl⟩
   all_goals
    simp [f6, f7, hl1, Pa.enc]
    rw [zu]
    refine ⟨[ex.length + 3], ?_⟩
    simp only [Po.enc] at happ
    simp [f4, f6, f7, hl3, Pa.enc, Po.enc, u5, u6, u8, vR, jN, zN, -qC, happ, vu, qV]
    exact ⟨swap3, l, [], es ++ [u], _, _, ⟨rfl, rfl⟩, by simp; omega, hg', by
     rw [hmg, sI]
     cases l with
     | nil => rw [cK]; simp
     | cons a l => rw [sI]; simp, fun z hz => okl z (by simp [hz]), by simp, rfl, rfl⟩
  | cons y m =>
   obtain ⟨wy, oy, ny⟩ := okm y (by simp)
   have v5 := gC wy oy
   have v6 : f1 wG [y.c.enc] = some (.int .i64 (zW y.c)) := j8 wy
   have v7 := jP oy
   rw [decide_eq_false ny] at v7
   have v8 : (zW y.c != 0) = true := by rw [bne, v7]; rfl
   simp only [Fr.enc] at v5 v6
   have hp1 : (0 : Int) < (m.length : Int) + 1 := by omega
   have hp2 : ((m.length : Int) + 1 == 0) = false := by simp; omega
   have hp3 : (1 : Int) ≤ (m.length : Int) + 1 := by omega
   simp only [List.length_cons] at hlen
   by_cases hlt : u.t < y.t
   ·obtain ⟨k', v', ex', happ, hg'⟩ := more u.c u.t _ rfl (by omega)
    rw [merge_lt hlt, map_app] at hmg
    rcases hg.form with rfl | ⟨kk, nn, vv, rfl⟩
    all_goals
     simp [f6, f7, hl1, hp2, hlt, Pa.enc]
     rw [zu]
     refine ⟨[ex.length + 3], ?_⟩
     simp only [Po.enc] at happ
     simp [f4, f6, f7, hl3, Pa.enc, Po.enc, u5, u6, u8, vR, jN, zN, -qC, happ, vu, qV]
     exact ⟨swap3, l, y :: m, es ++ [u], _, _, ⟨rfl, rfl⟩, by simp; omega, hg', hmg, fun z hz => okl z (by simp [hz]), fun z hz => okm z hz, rfl, rfl⟩
   ·by_cases hgt : y.t < u.t
    ·obtain ⟨k', v', ex', happ, hg'⟩ := more y.c y.t _ rfl (by omega)
     rw [merge_gt hgt, map_app] at hmg
     rcases hg.form with rfl | ⟨kk, nn, vv, rfl⟩
     all_goals
      simp [f6, f7, hl1, hl2, hp2, hlt, hgt, Pa.enc]
      rw [zu]
      refine ⟨[ex.length + 3], ?_⟩
      simp only [Po.enc] at happ
      simp [f4, f6, f7, hp3, Pa.enc, Po.enc, v5, v6, v8, vR, jN, zN, -qC, happ, vu, qV]
      exact ⟨swap3, u :: l, m, es ++ [y], _, _, ⟨rfl, rfl⟩, by simp; omega, hg', hmg, fun z hz => okl z hz, fun z hz => okm z (by simp [hz]), rfl, rfl⟩
    ·have heq : u.t = y.t := by omega
     have w1 := oQ wu wy
     rw [merge_eq heq] at hmg
     rcases tk ou oy with he | he
     case inr =>
      rw [he] at w1 hmg
      simp only [show ¬ (4 = 0) by decide, if_false, Option.map_none] at hmg
      rw [hmg] at hr
      simp only [Fr.enc, zF] at w1
      rcases hg.form with rfl | ⟨kk, nn, vv, rfl⟩
      all_goals
       simp [f6, f7, hl1, hl2, hp2, hlt, hgt, Pa.enc]
       rw [zu]
       refine ⟨[ex.length + 3], ?_⟩
       simp [f4, f6, f7, Pa.enc, Po.enc, w1, hr, da, zPo, zF, vu, qV]
     obtain ⟨d, hd⟩ : ∃ d, d = (v9 u.c y.c).1 := ⟨_, rfl⟩
     have od : d.ok = true := by rw [hd]; exact ok_addF he
     have wd : d.wf := by rw [hd]; exact d9 _ _
     have d6 : f1 wG [d.enc] = some (.int .i64 (zW d)) := j8 wd
     have d7 := jP od
     rw [he, ← hd] at w1
     rw [he, ← hd, if_pos rfl] at hmg
     simp only [Fr.enc] at w1 d6
     by_cases dn : d.n = []
     ·rw [decide_eq_true dn] at d7
      have d8 : (zW d != 0) = false := by rw [bne, d7]; rfl
      rcases hg.form with rfl | ⟨kk, nn, vv, rfl⟩
      all_goals
       simp [f6, f7, hl1, hl2, hp2, hlt, hgt, Pa.enc]
       rw [zu]
       refine ⟨[ex.length + 3], ?_⟩
       simp [f4, f6, f7, hl3, hp3, Pa.enc, Po.enc, w1, d6, d8, vR, jN, vu, qV]
       exact ⟨⟨l, m, es, _, _, ⟨rfl, rfl⟩, by omega, hg.more _, by rw [hmg, Option.map_map]; congr 1; funext z; simp [dn], fun z hz => okl z (by simp [hz]), fun z hz => okm z (by simp [hz]), rfl, rfl⟩, by omega⟩
     ·rw [decide_eq_false dn] at d7
      have d8 : (zW d != 0) = true := by rw [bne, d7]; rfl
      obtain ⟨k', v', ex', happ, hg'⟩ := more d u.t _ rfl (by omega)
      rcases hg.form with rfl | ⟨kk, nn, vv, rfl⟩
      all_goals
       simp [f6, f7, hl1, hl2, hp2, hlt, hgt, Pa.enc]
       rw [zu]
       refine ⟨[ex.length + 3], ?_⟩
       simp only [Po.enc] at happ
       simp [f4, f6, f7, hl3, hp3, Pa.enc, Po.enc, w1, d6, d8, zN, -qC, happ, vR, jN, vu, qV]
       exact ⟨⟨l, m, es ++ [⟨d, u.t⟩], _, _, ⟨rfl, rfl⟩, by simp; omega, hg', by rw [hmg, Option.map_map]; congr 1; funext z; simp [dn], fun z hz => okl z (by simp [hz]), fun z hz => okm z (by simp [hz]), rfl, rfl⟩, by omega⟩
theorem ofR {n d : Int} (h : (-1000 ≤ n ∧ n ≤ 1000) ∧ (-1000 ≤ d ∧ d ≤ 1000)) : uK [.int .i64 n, .int .i64 d] = some (ofQ (Rat.divInt n d)).enc := sQOf_at (by omega) (by omega)
theorem quoP_at {x y : Fr} (hx : x.wf) (hy : y.wf) : f2 tS [x.enc, y.enc] = some (.tup [(cW x y).1.enc, .int .i64 (cW x y).2]) := pe hx hy
theorem m1_eq : Rat.divInt (-1) 1 = -1 := by decide +kernel
theorem p1_eq : Rat.divInt 1 1 = 1 := by decide +kernel
abbrev Lk := PVal → Po → Option (Int → Fr)
structure LkOk (T : Tab) (L : Lk) : Prop where
 ok : ∀ c p lk, L c p = some lk → ∃ f caps, c = .clo f caps ∧ ∀ x ∈ p.ps, (lk x.t).wf ∧ T.fn f (.int .i64 x.t :: caps) = some (.p (lk x.t).enc, [])
 mu : ∀ f a H, T.mu f a H = none
structure TVal (T : Tab) : Prop where
 a1 : T.fn 68 = za (g1 yW)
 a2 : T.fn 69 = za (f1 wN)
 a3 : T.fn 75 = za pD
 a4 : T.fn 70 = za (f2 cX)
 a5 : T.fn 74 = za (f2 cZ)
theorem sumF_drop {lk : Int → Fr} {l : List Pa} {i : Nat} {x : Pa} {s : Fr} (hx : l[i]? = some x) : fg lk (l.drop i) s = if (vZ x.c (lk x.t)).2 = 0 then (if (v9 s (vZ x.c (lk x.t)).1).2 = 0 then fg lk (l.drop (i + 1)) (v9 s (vZ x.c (lk x.t)).1).1 else (zF, 4)) else (zF, 4) := by
 have hi := (List.getElem?_eq_some_iff.1 hx).1
 rw [List.drop_eq_getElem_cons hi, zZ hx]
 rfl
theorem ok_mulF {x y : Fr} (h : (vZ x y).2 = 0) : (vZ x y).1.ok = true := by
 unfold vZ qG at h ⊢
 split at h
 ·split at h
  ·rename_i h1 h2
   rw [if_pos h1, if_pos h2]
   exact vH h2
  ·cases h
 ·cases h
def Trz : Tab := ((Tab.none.with 19 (za uK)).with 85 (za (f1 wN))).with 36 (za (f2 vX))
theorem Trz_ok : TabOk Tryz.prog base Trz := Tab.with_ok (Tab.with_ok (Tab.with_ok Tab.none_ok gI) uw) sk
theorem tn (f : FuncId) (a : List AVal) (H : zb) : Trz.mu f a H = none := (rfl)
theorem mt : Trz.fn 19 = (za uK) ∧ Trz.fn 85 = (za (f1 wN)) ∧ Trz.fn 36 = (za (f2 vX)) := ⟨rfl, rfl, rfl⟩
theorem z1_eq : Rat.divInt 0 1 = 0 := by decide +kernel
theorem rzero_ok : zG Tryz.prog base 122 (za kj) := by
 refine zd zB Trz_ok ze low122 fun args z hs hf => ?_
 unfold kj at hs
 split at hs
 case h_2 => cases hs
 cases hs
 refine ⟨by simp [lf122], ?_⟩
 have o1 := ofR (n := 0) (d := 1) (by decide)
 rw [z1_eq] at o1
 obtain ⟨x, hx⟩ : ∃ x, x = ofQ 0 := ⟨_, rfl⟩
 rw [← hx] at o1 ⊢
 simp only [Fr.enc] at o1 ⊢
 simp [lf122, o1, tn, mt]
theorem sl : zG Tryz.prog base 83 (za (g1 yW)) := by
 refine zd zB Trz_ok ze low83 fun args z hs hf => ?_
 obtain ⟨p, wp, rfl, rfl⟩ := oo hs
 refine ⟨by simp [lf83], ?_⟩
 unfold yW
 have hlen := len_ps (hf _ (List.mem_singleton.2 rfl))
 have hc : f1 wN [p.c.enc] = some (.bool p.c.ok) := vF wp.2
 simp only [Po.enc, Fr.enc] at hc ⊢
 simp [lf83]
 simp only [lf83_B0, zr]
 refine zo (fun fr H => ∃ (i : Nat) (ex : zb), H = ⟨4, 0, false, [.p p.enc], 76⟩ :: ex ∧ i ≤ p.ps.length ∧ qL (-1) p.ps = qL (wE p.ps i) (p.ps.drop i) ∧ fr 1 = .optr 0 0 0 0 ∧ fr 3 = .p (.int .i64 (wE p.ps i)) ∧ fr 4 = .p (.int .i64 i)) (fun fr _ => p.ps.length - zD (fr 4))
  ⟨0, [], by simp [Po.enc], by omega, rfl, by simp, by simp [wE], by simp⟩ ?_
 rintro fr H ⟨i, ex, rfl, hi, hok, f1', f3, f4⟩
 by_cases h1 : i < p.ps.length
 ·obtain ⟨x, hx⟩ : ∃ x, p.ps[i]? = some x := ⟨_, List.getElem?_eq_getElem h1⟩
  have wx : x.c.wf := wp.1 x (List.mem_of_getElem? hx)
  have hv : f1 wN [x.c.enc] = some (.bool x.c.ok) := vF wx
  simp only [Fr.enc] at hv
  have hxe := zZ hx
  have hw := zs (i := i) (by omega)
  rw [sB hx] at hok
  have hlx : wE p.ps (i + 1) = x.t := by simp only [wE, hx]
  have bad : (decide (wE p.ps i < x.t) && x.c.ok && !decide (x.c.n = [])) = false → p.ok = false := fun h => by
   unfold Po.ok
   rw [hok, h]
   rfl
  by_cases ha : x.t ≤ wE p.ps i
  ·rw [bad (by rw [decide_eq_false (show ¬ wE p.ps i < x.t by omega)]; rfl)]
   simp [f1', f3, f4, h1, hxe, Pa.enc, Po.enc, ha]
  ·cases hvk : x.c.ok with
   | false =>
    rw [hvk] at hv
    rw [bad (by rw [hvk]; simp)]
    simp [f1', f3, f4, h1, hxe, Pa.enc, Po.enc, ha, hv, tn, mt]
   | true =>
    rw [hvk] at hv
    by_cases hn : x.c.n = []
    ·rw [bad (by rw [decide_eq_true hn]; simp)]
     rw [hn] at hv
     simp only [List.map_nil] at hv
     simp [f1', f3, f4, h1, hxe, Pa.enc, Po.enc, ha, hv, hn, tn, mt]
    ·have hn0 : ((x.c.n.length : Int) == 0) = false := by
      have := List.length_pos_iff.2 hn
      simp; exact hn
     have hg : qL (-1) p.ps = qL (wE p.ps (i + 1)) (p.ps.drop (i + 1)) := by rw [hok, decide_eq_true (show wE p.ps i < x.t by omega), hvk, decide_eq_false hn]; rfl
     simp [f1', f3, f4, h1, hxe, Pa.enc, Po.enc, ha, hv, hn0, hw, zD, tn, mt]
     exact ⟨⟨i + 1, by omega, hg, hlx.symm, by omega⟩, by omega⟩
 ·have hil : i = p.ps.length := by omega
  rw [hil, List.drop_length] at hok
  have : p.ok = p.c.ok := by unfold Po.ok; rw [hok]; rfl
  rw [this]
  simp [f1', f4, h1, Po.enc, hc, tn, mt]
structure Bd where
 id : Int
 x : Fr
def Bd.enc (b : Bd) : PVal := .agg [.int .i64 b.id, .bool b.x.s, .lst (b.x.n.map u64), .lst (b.x.d.map u64)]
def wfB (l : List Bd) : Prop := ∀ b ∈ l, b.x.wf
def iw : PVal → Option Bd
 | .agg [.int .i64 t, .bool s, .lst xs, .lst ys] => match jJ xs, jJ ys with | some l, some m => some ⟨t, ⟨s, l, m⟩⟩ | _, _ => none
 | _ => none
theorem decBd_enc {b : Bd} (h : b.x.wf) : iw b.enc = some b := by simp only [iw, Bd.enc, zX h.1, zX h.2]
theorem decBd_some {v : PVal} {b : Bd} (h : iw v = some b) : v = b.enc ∧ b.x.wf := by
 unfold iw at h
 split at h
 ·rename_i t s xs ys
  split at h
  ·rename_i l m hl hm
   cases h
   obtain ⟨rfl, wl⟩ := zI hl
   obtain ⟨rfl, wm⟩ := zI hm
   exact ⟨rfl, wl, wm⟩
  ·cases h
 ·cases h
def pt : List PVal → Option (List Bd)
 | [] => some []
 | v :: r => match iw v, pt r with | some x, some l => some (x :: l) | _, _ => none
theorem cP : ∀ {l : List Bd}, wfB l → pt (l.map Bd.enc) = some l
 | [], _ => rfl
 | x :: r, h => by simp only [List.map_cons, pt, decBd_enc (h x (by simp)), cP (l := r) (fun y hy => h y (by simp [hy]))]
theorem bh : ∀ {vs : List PVal} {l : List Bd}, pt vs = some l → vs = l.map Bd.enc ∧ wfB l
 | [], l, h => by cases h; exact ⟨rfl, fun x hx => by cases hx⟩
 | v :: r, l, h => by
  unfold pt at h
  split at h
  ·rename_i x m hx hm
   cases h
   obtain ⟨rfl, wx⟩ := decBd_some hx
   obtain ⟨rfl, wm⟩ := bh hm
   refine ⟨rfl, fun y hy => ?_⟩
   rcases List.mem_cons.1 hy with rfl | hy
   ·exact wx
   ·exact wm y hy
  ·cases h
def jc : List Bd → Int → Fr
 | [], _ => ofQ 0
 | b :: r, i => if b.id = i then b.x else jc r i
theorem ew : ∀ {l : List Bd} {i : Int}, wfB l → (jc l i).wf
 | [], _, _ => wS 0
 | b :: r, i, h => by
  unfold jc
  split
  ·exact h b (by simp)
  ·exact ew fun y hy => h y (by simp [hy])
theorem lookB_drop {i : Int} {l : List Bd} {k : Nat} {b : Bd} (hb : l[k]? = some b) : jc (l.drop k) i = if b.id = i then b.x else jc (l.drop (k + 1)) i := by
 have hi := (List.getElem?_eq_some_iff.1 hb).1
 rw [List.drop_eq_getElem_cons hi, zZ hb]
 rfl
def rW : List PVal → Option PVal
 | [.lst vs, .int .i64 i] => match pt vs with | some l => some (jc l i).enc | none => none
 | _ => none
theorem sLook_at {l : List Bd} {i : Int} (h : wfB l) : rW [.lst (l.map Bd.enc), .int .i64 i] = some (jc l i).enc := by simp only [rW, cP h]
def Trlk : Tab := Tab.none.with 122 (za kj)
theorem Trlk_ok : TabOk Tryz.prog base Trlk := Tab.with_ok Tab.none_ok rzero_ok
theorem Trlk_mu (f : FuncId) (a : List AVal) (H : zb) : Trlk.mu f a H = none := (rfl)
theorem Trlk_fns : Trlk.fn 122 = (za kj) := (rfl)
theorem rlook_ok : zG Tryz.prog base 86 (za rW) := by
 refine zd zB Trlk_ok ze low86 fun args z hs hf => ?_
 unfold rW at hs
 split at hs
 case h_2 => cases hs
 rename_i vs n
 split at hs
 case h_2 => cases hs
 rename_i l hl
 obtain ⟨rfl, wl⟩ := bh hl
 cases hs
 have hlen := (hf (.lst (l.map Bd.enc)) (by simp)).lst.1
 unfold maxLen at hlen
 simp only [List.length_map] at hlen
 refine ⟨by simp [lf86], ?_⟩
 have v2 := yK
 obtain ⟨r, hr⟩ : ∃ r, r = jc l n := ⟨_, rfl⟩
 rw [← hr]
 obtain ⟨z0, hz0⟩ : ∃ z0, z0 = ofQ 0 := ⟨_, rfl⟩
 rw [← hz0] at v2
 simp only [Fr.enc] at v2 ⊢
 simp [lf86]
 simp only [lf86_B0, zr]
 refine zo (fun fr H => ∃ i : Nat, H = [⟨3, 0, false, [.agg [.p (.bool false), .tight [], .tight []]], 33⟩] ∧ i ≤ l.length ∧ r = jc (l.drop i) n ∧ fr 0 = .p (.lst (l.map Bd.enc)) ∧ fr 1 = .p (.int .i64 n) ∧ fr 4 = .optr 0 0 0 0 ∧ fr 5 = .p (.int .i64 i)) (fun fr _ => l.length - zD (fr 5))
  ⟨0, by simp, by omega, hr, by simp, by simp, by simp, by simp⟩ ?_
 rintro fr H ⟨i, rfl, hi, hri, f0, f1', f4', f5⟩
 by_cases h1 : i < l.length
 ·obtain ⟨b, hb⟩ : ∃ b, l[i]? = some b := ⟨_, List.getElem?_eq_getElem h1⟩
  have hbe := zZ hb
  have hw := zs (i := i) (by omega)
  rw [lookB_drop hb] at hri
  by_cases ht : b.id = n
  ·rw [if_pos ht] at hri
   simp [f0, f1', f4', f5, h1, hbe, ht, hri, Bd.enc]
  ·rw [if_neg ht] at hri
   have ht2 : (b.id == n) = false := by simp [ht]
   simp [f0, f1', f4', f5, h1, hbe, ht2, hw, zD, Bd.enc]
   exact ⟨⟨i + 1, by omega, hri, by omega⟩, by omega⟩
 ·have hil : i = l.length := by omega
  rw [hil, List.drop_length] at hri
  have : r = z0 := by rw [hri, hz0]; rfl
  rw [this]
  simp [f0, f4', f5, h1, v2, Trlk_mu, Trlk_fns]
end Go.Proofs.YtgbjjikaenlkmaaGreat

namespace Go.Proofs.YtgbjjikaenlkmaaGreat
open Go Go.Abs Go.Limbs
variable {base : Prot}
set_option maxRecDepth 20000
attribute [local irreducible] vc
attribute [local simp] za zi freezeL fuel zk u64 au
def xe : List PVal → Option PVal
 | [a, .lst vs] => match kU a, pt vs with | some p, some l => if p.few = true then some (zU (kV (jc l) p)) else none | _, _ => none
 | _ => none
theorem sRVal_at {p : Po} {l : List Bd} (wp : p.wf) (fp : p.few = true) (wl : wfB l) : xe [p.enc, .lst (l.map Bd.enc)] = some (zU (kV (jc l) p)) := by simp only [xe, jF wp, cP wl, fp, if_true]
def Trva : Tab := ((((Tab.none.with 83 (za (g1 yW))).with 86 (za rW)).with 85 (za (f1 wN))).with 87 (za (f2 cX))).with 88 (za (f2 cZ))
theorem Trva_ok : TabOk Tryz.prog base Trva := Tab.with_ok (Tab.with_ok (Tab.with_ok (Tab.with_ok (Tab.with_ok Tab.none_ok sl) rlook_ok) uw) rMul_ok) rAdd_ok
theorem bn (f : FuncId) (a : List AVal) (H : zb) : Trva.mu f a H = none := (rfl)
theorem uH : Trva.fn 83 = (za (g1 yW)) ∧ Trva.fn 86 = (za rW) ∧ Trva.fn 85 = (za (f1 wN)) ∧ Trva.fn 87 = (za (f2 cX)) ∧ Trva.fn 88 = (za (f2 cZ)) := ⟨rfl, rfl, rfl, rfl, rfl⟩
set_option maxHeartbeats 1000000 in
theorem rvalue_ok : zG Tryz.prog base 51 (za xe) := by
 refine zd zB Trva_ok ze low51 fun args z hs hf => ?_
 unfold xe at hs
 split at hs
 case h_2 => cases hs
 rename_i a vs
 split at hs
 case h_2 => cases hs
 rename_i p l hpd hl
 obtain ⟨rfl, wp⟩ := vL hpd
 obtain ⟨rfl, wl⟩ := bh hl
 split at hs
 case isFalse => cases hs
 rename_i fp
 cases hs
 refine ⟨by simp [lf51], ?_⟩
 have hlen := sZ fp
 have v1 : g1 yW [p.enc] = some (.bool p.ok) := sU wp
 unfold zU kV
 cases hp : p.ok with
 | false =>
  rw [hp] at v1
  simp only [Po.enc, Fr.enc] at v1 ⊢
  simp [lf51, v1, zF, bn, uH]
 | true =>
 rw [hp] at v1
 simp only [Bool.true_and]
 obtain ⟨lk, hlk⟩ : ∃ lk, lk = jc l := ⟨_, rfl⟩
 have wk : ∀ i, (lk i).wf := fun i => by rw [hlk]; exact ew wl
 have vl : ∀ i, rW [.lst (l.map Bd.enc), .int .i64 i] = some (lk i).enc := fun i => by rw [hlk]; exact sLook_at wl
 rw [← hlk]
 obtain ⟨r, hr⟩ : ∃ r, r = (if (p.ps.all fun x => (lk x.t).ok) = true then fg lk p.ps p.c else (zF, 1)) := ⟨_, rfl⟩
 rw [← hr]
 simp only [Po.enc, Fr.enc] at v1 ⊢
 simp [lf51, v1, bn, uH]
 simp only [lf51_B0, zr]
 refine zo (fun fr H => ∃ i : Nat, H = [⟨4, 0, false, [.p p.enc], 76⟩, ⟨3, 0, false, [.agg [.p (.bool false), .tight [], .tight []]], 33⟩] ∧
   i ≤ p.ps.length ∧ (∀ x ∈ p.ps.take i, (lk x.t).ok = true) ∧ fr 1 = .p (.lst (l.map Bd.enc)) ∧ fr 2 = .optr 0 0 0 0 ∧ fr 4 = .optr 1 0 0 0 ∧ fr 6 = .p (.int .i64 i)) (fun fr _ => p.ps.length - zD (fr 6))
  ⟨0, by simp [Po.enc], by omega, by simp, by simp, by simp, by simp, by simp⟩ ?_
 rintro fr H ⟨i, rfl, hi, hok, f1', f2', f4', f6⟩
 by_cases h1 : i < p.ps.length
 ·obtain ⟨y, hy⟩ : ∃ y, p.ps[i]? = some y := ⟨_, List.getElem?_eq_getElem h1⟩
  have hye := zZ hy
  have hv := vF (wk y.t)
  have hw := zs (i := i) (by omega)
  have htk := db hy
  have vy := vl y.t
  obtain ⟨d, hd⟩ : ∃ d, d = lk y.t := ⟨_, rfl⟩
  rw [← hd] at hv vy
  cases hdo : d.ok with
  | false =>
   rw [hdo] at hv
   have : (p.ps.all fun x => (lk x.t).ok) = false := by
    cases h : p.ps.all fun x => (lk x.t).ok with
    | false => rfl
    | true =>
     have := List.all_eq_true.1 h y (List.mem_of_getElem? hy)
     rw [← hd, hdo] at this
     cases this
   rw [this] at hr
   simp only [Fr.enc] at hv vy
   simp [f1', f2', f4', f6, h1, hye, Pa.enc, Po.enc, hv, vy, hr, zF, bn, uH]
  | true =>
   rw [hdo] at hv
   simp only [Fr.enc] at hv vy
   simp [f1', f2', f4', f6, h1, hye, Pa.enc, Po.enc, hv, vy, hw, zD, bn, uH]
   exact ⟨⟨i + 1, by omega, fun x hx => by
    rw [htk] at hx
    rcases List.mem_append.1 hx with hx | hx
    ·exact hok x hx
    ·rw [List.mem_singleton] at hx; subst hx; rw [← hd]; exact hdo, by omega⟩, by omega⟩
 ·have hil : i = p.ps.length := by omega
  rw [hil, List.take_length] at hok
  have hall : (p.ps.all fun x => (lk x.t).ok) = true := List.all_eq_true.2 hok
  rw [hall, if_pos rfl] at hr
  simp [f2', f6, h1, Po.enc]
  simp only [lf51_B1, zr]
  refine zo (fun fr H => ∃ (i : Nat) (s : Fr) (ex : zb), H = ⟨4, 0, false, [.p p.enc], 76⟩ :: ⟨3, 0, false, [.agg [.p (.bool false), .tight [], .tight []]], 33⟩ :: ⟨3, 0, false, [.p s.enc], 33⟩ :: ex ∧
   i ≤ p.ps.length ∧ s.wf ∧ s.ok = true ∧ r = fg lk (p.ps.drop i) s ∧
   fr 1 = .p (.lst (l.map Bd.enc)) ∧ fr 2 = .optr 0 0 0 0 ∧ fr 4 = .optr 1 0 0 0 ∧ fr 7 = .optr 2 0 0 0 ∧ fr 8 = .p (.int .i64 i)) (fun fr _ => p.ps.length - zD (fr 8))
   ⟨0, p.c, [], by simp [Po.enc, Fr.enc], by omega, wp.2, uA hp, hr, by simp [f1'], by simp [f2'], by simp [f4'], by simp, by simp⟩ ?_
  clear f1' f2' f4' f6
  rintro fr H ⟨i, s, ex, rfl, hi, ws, os, hrs, f1', f2', f4', f7, f8⟩
  by_cases h1 : i < p.ps.length
  ·obtain ⟨y, hy⟩ : ∃ y, p.ps[i]? = some y := ⟨_, List.getElem?_eq_getElem h1⟩
   have hye := zZ hy
   have wy : y.c.wf := wp.1 y (List.mem_of_getElem? hy)
   have oy := yV hp (List.mem_of_getElem? hy)
   have ok2 : (lk y.t).ok = true := hok y (List.mem_of_getElem? hy)
   have hw := zs (i := i) (by omega)
   have m1 := fW wy (wk y.t)
   have vy := vl y.t
   rw [sumF_drop hy] at hrs
   obtain ⟨e, he0⟩ : ∃ e, e = lk y.t := ⟨_, rfl⟩
   rw [← he0] at m1 ok2 hrs vy
   rcases sD oy ok2 with he | he
   case inr =>
    rw [he] at m1 hrs
    simp only [show ¬ (4 = 0) by decide, if_false] at hrs
    simp only [Fr.enc, zF] at m1 vy
    simp [f2', f8, h1, Po.enc, Fr.enc]
    rw [zu]
    refine ⟨[], ?_⟩
    simp [f1', f2', f4', f8, h1, hye, vy, m1, hrs, zF, Pa.enc, bn, uH]
    exact snoc3
   obtain ⟨d, hd⟩ : ∃ d, d = (vZ y.c e).1 := ⟨_, rfl⟩
   have wd : d.wf := by rw [hd]; exact dZ _ _
   have od : d.ok = true := by rw [hd]; exact ok_mulF he
   rw [he, ← hd] at m1
   rw [he, ← hd, if_pos rfl] at hrs
   have m2 := oQ ws wd
   rcases tk os od with he2 | he2
   case inr =>
    rw [he2] at m2 hrs
    simp only [show ¬ (4 = 0) by decide, if_false] at hrs
    simp only [Fr.enc, zF] at m1 m2 vy
    simp [f2', f8, h1, Po.enc, Fr.enc]
    rw [zu]
    refine ⟨[], ?_⟩
    simp [f1', f2', f4', f7, f8, h1, hye, vy, m1, m2, hrs, zF, Pa.enc, bn, uH]
    exact snoc3
   obtain ⟨u, hu⟩ : ∃ u, u = (v9 s d).1 := ⟨_, rfl⟩
   have wu : u.wf := by rw [hu]; exact d9 _ _
   have ou : u.ok = true := by rw [hu]; exact ok_addF he2
   rw [he2, ← hu] at m2
   rw [he2, ← hu, if_pos rfl] at hrs
   simp only [Fr.enc] at m1 m2 vy
   simp [f2', f8, h1, Po.enc, Fr.enc]
   rw [zu]
   refine ⟨[], ?_⟩
   simp [f1', f2', f4', f7, f8, h1, hye, vy, m1, m2, hw, zD, Pa.enc, bn, uH]
   exact ⟨snoc3, ⟨i + 1, u, ⟨rfl, rfl, rfl⟩, by omega, wu, ou, hrs, by omega⟩, by omega⟩
  ·have hil : i = p.ps.length := by omega
   rw [hil, List.drop_length] at hrs
   simp only [fg] at hrs
   simp [f2', f4', f7, f8, h1, hrs, Po.enc, Fr.enc]
end Go.Proofs.YtgbjjikaenlkmaaGreat

namespace Go.Proofs.YtgbjjikaenlkmaaGreat
open Go Go.Abs Go.Limbs
variable {base : Prot}
set_option maxRecDepth 20000
attribute [local irreducible] vc
attribute [local simp] za zi freezeL fuel zk u64 au
end Go.Proofs.YtgbjjikaenlkmaaGreat

namespace Go.Proofs.YtgbjjikaenlkmaaGreat
open Go Go.Abs Go.Limbs
set_option maxRecDepth 20000
abbrev QP := List (Rat × Int)
def okQ : Int → QP → Prop
 | _, [] => True
 | a, x :: r => a < x.2 ∧ x.1 ≠ 0 ∧ okQ x.2 r
structure Qo where
 ps : QP
 c : Rat
def SmP (k : Nat) (l : QP) : Prop := ∀ x ∈ l, Sm k x.1
structure Qo.Is (p : Qo) (k : Nat) : Prop where
 ok : okQ (-1) p.ps
 sp : SmP k p.ps
 sc : Sm k p.c
theorem SmP.mono {j k : Nat} {l : QP} (h : SmP j l) (hk : j ≤ k) : SmP k l := fun x hx => Sm_mono (h x hx) hk
theorem Qo.Is.mono {p : Qo} {j k : Nat} (h : p.Is j) (hk : j ≤ k) : p.Is k := ⟨h.ok, h.sp.mono hk, Sm_mono h.sc hk⟩
theorem okQ.mono : ∀ {l : QP} {a b : Int}, okQ b l → a ≤ b → okQ a l
 | [], _, _, _, _ => trivial
 | x :: r, a, b, h, hab => ⟨by have := h.1; omega, h.2⟩
end Go.Proofs.YtgbjjikaenlkmaaGreat

namespace Go.Proofs.YtgbjjikaenlkmaaGreat
open Go Go.Abs Go.Limbs
variable {base : Prot}
set_option maxRecDepth 20000
attribute [local irreducible] vc
attribute [local simp] za zi freezeL fuel zk u64 au
def pw : Qo := ⟨[(2, 1), (-1, 4)], 3⟩
theorem add_lit {p q r : Rat} (hp : Sm 64 p) (hq : Sm 64 q) (hr : Sm 64 r) (e : p + q = r) : v9 (ofQ p) (ofQ q) = (ofQ r, 0) := by rw [tj hp hq, e, bZ hr]
def gG : List PVal → Option PVal
 | [] => some (.bool true)
 | _ => none
theorem keepT {l m : zb} {n : Nat} (h : l.take n = m.take n) (k : Nat) (hk : k < n) : l[k]? = m[k]? := by
 have h1 : (l.take n)[k]? = (m.take n)[k]? := by rw [h]
 rwa [List.getElem?_take, List.getElem?_take, if_pos hk, if_pos hk] at h1
theorem yF : ∀ {l m r : List Pa}, x9 l → x9 m → qJ l m = some r → x9 r
 | [], m, r, _, hm, h => by
  rw [qJ] at h; cases h; exact hm
 | x :: l, [], r, hl, _, h => by
  rw [qJ] at h; cases h; exact hl
 | x :: l, y :: m, r, hl, hm, h => by
  have hx := hl x (by simp)
  have hy := hm y (by simp)
  have hl' : x9 l := fun z hz => hl z (by simp [hz])
  have hm' : x9 m := fun z hz => hm z (by simp [hz])
  rw [qJ] at h
  split at h
  ·rw [Option.map_eq_some_iff] at h
   obtain ⟨s, hs, rfl⟩ := h
   exact List.forall_mem_cons.2 ⟨hx, yF hl' hm hs⟩
  ·split at h
   ·rw [Option.map_eq_some_iff] at h
    obtain ⟨s, hs, rfl⟩ := h
    exact List.forall_mem_cons.2 ⟨hy, yF hl hm' hs⟩
   ·split at h
    ·rw [Option.map_eq_some_iff] at h
     obtain ⟨s, hs, rfl⟩ := h
     have := yF hl' hm' hs
     split
     ·exact this
     ·exact List.forall_mem_cons.2 ⟨d9 _ _, this⟩
    ·cases h
termination_by l m => l.length + m.length
theorem rf {k : Fr} : ∀ {l r : List Pa}, kM k l = some r → x9 r
 | [], r, h => by rw [kM] at h; cases h; exact fun x hx => (by cases hx)
 | x :: l, r, h => by
  rw [kM] at h
  split at h
  ·rw [Option.map_eq_some_iff] at h
   obtain ⟨s, hs, rfl⟩ := h
   exact List.forall_mem_cons.2 ⟨dZ _ _, rf hs⟩
  ·cases h
theorem wf_addPo {p q : Po} (hp : p.wf) (hq : q.wf) : (iW p q).1.wf := by
 unfold iW
 split
 ·split
  ·cases h : qJ p.ps q.ps with
   | none => exact jK
   | some r => exact ⟨yF hp.1 hq.1 h, d9 _ _⟩
  ·exact jK
 ·exact jK
theorem p8 (p : Po) (k : Fr) : (kx p k).1.wf := by
 unfold kx
 split
 ·split
  ·split
   ·exact ⟨fun x hx => (by cases hx), dZ _ _⟩
   ·cases h : kM k p.ps with
    | none => exact jK
    | some r => exact ⟨rf h, dZ _ _⟩
  ·exact jK
 ·exact jK
theorem wf_sumF {lk : Int → Fr} : ∀ {l : List Pa} {s : Fr}, s.wf → (fg lk l s).1.wf
 | [], s, h => h
 | x :: l, s, h => by
  unfold fg
  split
  ·split
   ·exact wf_sumF (d9 _ _)
   ·exact br
  ·exact br
theorem lp {lk : Int → Fr} {p : Po} (h : p.wf) : (kV lk p).1.wf := by
 unfold kV
 split
 ·exact wf_sumF h.2
 ·exact br
end Go.Proofs.YtgbjjikaenlkmaaGreat

namespace Go.Proofs.YtgbjjikaenlkmaaGreat
open Go Go.Abs
def lf45 : LFunc := ⟨65,[.cell 4 7 true,.slot 5,.slot 6],.seq (.region [Oa 3 (.newv 4 76 (Tm 1)),Oa 4 (.newv 7 78 (.cst Za)),Oa 5 (.mov Kg),Oa 6 (.mov (Kz 0))]) (.seq (.seq (.region [Om 8 0,Oa 9 (.bin .eql (Tm 8) (Kz 4))]) (.cond (Tm 9) (.region [Oa 0 (.mov (Kz 3)),Oa 5 (.mov Kt)]) (.skip))) (.seq (.seq (.region [Om 10 0,Oa 11 (.call 76 [Tm 10]),Oa 12 (.un .not (Tm 11)),Om 13 12,Od 14 13 (.load 4 true (Tm 3)),Od 15 13 (.call 68 [Tm 14]),Od 16 13 (.un .not (Tm 15)),Ou 17 13 16]) (.cond (Tm 17) (.seq (.region [Oq 18 7 true 4,Oy 7 4 18,Oa 5 (.mov Kg),Oa 6 (.mov (Kz 1))]) (.ret)) (.skip))) (.seq (.region [Om 19 0,Oq 20 4 true 3,Oa 21 (.call 77 [Tm 20]),Oz 22 0 4,Oy 1 22 19,Oz 23 1 4,Oy 4 23 21]) (.seq (.region [Om 24 0,Oq 25 4 true 3,Oa 26 (.call 78 [Tm 24,Tm 25]),Oa 7 (.newv 3 33 (.cst Zr)),Oy 3 7 26]) (.seq (.seq (.region [Oq 27 3 true 7,Oa 28 (.call 71 [Tm 27]),Oa 29 (.bin .eql (Tm 28) (Kz 0))]) (.cond (Tm 29) (.seq (.region [Oq 30 7 true 4,Om 31 5,Oy 7 4 30,Om 5 31,Oa 6 (.mov (Kz 0))]) (.ret)) (.skip))) (.seq (.seq (.region [Oz 32 0 3,Oq 33 1 false 32,Oa 34 (.len (Tm 33)),Oa 35 (.bin .eql (Tm 34) (Kz 0))]) (.cond (Tm 35) (.seq (.region [Oz 36 1 3,Oq 37 3 true 36,Oa 38 (.call 71 [Tm 37]),Oa 39 (.call 43 [Tm 38,.cst (.p (.int .i64 1))]),Oz 40 1 4,Oz 41 1 40,Oy 3 41 39]) (.seq (.region [Oq 42 7 true 4,Om 43 5,Oy 7 4 42,Om 5 43,Oa 6 (.mov (Kz 0))]) (.ret))) (.skip))) (.seq (.seq (.regionW [(Oa 45 (.call 43 [.cst (.p (.int .i64 1)),.cst (.p (.int .i64 1))]),.s),(Oq 46 3 true 7,.s),(Oa 47 (.call 79 [Tm 45,Tm 46]),.f),(Om 44 47,.f),(Ox 48 44 0,.f),(Ox 49 44 1,.f),(Oy 3 7 48,.f),(Om 6 49,.f)]) (.seq (.region [Om 50 6,Oa 51 (.bin .eql (Tm 50) (Kz 0))]) (.cond (Tm 51) (.region [Oq 53 4 true 3,Oq 54 3 true 7,Oa 55 (.call 41 [Tm 53,Tm 54]),Om 52 55,Ox 56 52 0,Ox 57 52 1,Oz 58 1 4,Oy 4 58 56,Om 6 57]) (.skip)))) (.seq (.seq (.region [Om 59 6,Oa 60 (.bin .neq (Tm 59) (Kz 0))]) (.cond (Tm 60) (.seq (.region [Oa 61 (.build Za []),Om 62 6,Oy 7 4 61,Oa 5 (.mov Kg),Om 6 62]) (.ret)) (.skip))) (.seq
 (.region [Oq 63 7 true 4,Om 64 5,Oy 7 4 63,Om 5 64,Oa 6 (.mov (Kz 0))]) (.ret))))))))))⟩
theorem low45 : zf Tryz.prog gl0 45 = some lf45 := Go.Abs.lowF (by kernel_rfl)
def lf76 : LFunc := ⟨13,[.slot 2],.seq (.region [Oa 2 (.mov Kg)]) (.seq (.region [Om 3 0,Oa 4 (.bin .eql (Tm 3) (Kz 1)),Om 5 4,Oo 6 5 0,Od 7 5 (.bin .eql (Tm 6) (Kz 2)),Ou 8 5 7,Om 9 8,Oo 10 9 0,Od 11 9 (.bin .eql (Tm 10) (Kz 3)),Ou 12 9 11,Om 2 12]) (.ret))⟩
theorem low76 : zf Tryz.prog gl0 76 = some lf76 := Go.Abs.lowF (by kernel_rfl)
def lf78 : LFunc := ⟨33,[.cell 4 3 true],.seq (.region [Oa 3 (.newv 4 76 (Tm 1)),Oa 4 (.newv 3 33 (.cst Zr))]) (.seq (.region [Oz 6 1 3,Oq 7 3 true 6,Oa 5 (.newv 3 33 (.cst Zr)),Oy 3 5 7]) (.seq (.seq (.region [Oz 8 0 3,Oq 9 1 false 8,Oa 10 (.len (Tm 9)),Oa 11 (.bin .gtr (Tm 10) (Kz 0))]) (.cond (Tm 11) (.region [Oz 12 0 3,Oq 13 1 false 12,Oa 14 (.iadr 4 (Tm 13) (Kz 0)),Oz 15 0 14,Oq 16 3 true 15,Oy 3 5 16]) (.skip))) (.seq (.seq (.region [Oq 17 3 true 5,Oa 18 (.call 71 [Tm 17]),Oa 19 (.bin .lss (Tm 18) (Kz 0)),Om 20 19,Oj 21 20 0,Oc 22 20 (.bin .neq (Tm 21) (Kz 3)),Oj 23 20 22,Od 24 23 (.fadr 0 (Tm 3)),Od 25 23 (.load 1 false (Tm 24)),Od 26 23 (.len (Tm 25)),Od 27 23 (.bin .eql (Tm 26) (Kz 0)),Oc 28 20 (.pick (Tm 23) Kt (Tm 27)),Ot 29 20 28]) (.cond (Tm 29) (.region [Oq 30 3 true 5,Oa 31 (.call 118 [Tm 30]),Oy 3 5 31]) (.skip))) (.seq (.region [Oq 32 3 true 5,Oy 3 4 32]) (.ret)))))⟩
theorem low78 : zf Tryz.prog gl0 78 = some lf78 := Go.Abs.lowF (by kernel_rfl)
def lf40 : LFunc := ⟨23,[.cell 4 7 true,.slot 5],.seq (.region [Oa 4 (.newv 7 78 (.cst Za)),Oa 5 (.mov (Kz 0))]) (.seq (.seq (.region [Om 6 0,Om 7 1,Oa 8 (.bin .eql (Tm 6) (Tm 7)),Om 9 8,Oo 10 9 0,Oo 11 9 1,Od 12 9 (.minmax false (Tm 10) (Tm 11)),Od 13 9 (.bin .lss (Tm 12) (Kz 0)),Ou 14 9 13]) (.cond (Tm 14) (.seq (.region [Oa 15 (.build Za []),Oy 7 4 15,Oa 5 (.mov (Kz 1))]) (.ret)) (.skip))) (.seq (.region [Om 16 0,Om 17 1,Oa 18 (.minmax false (Tm 16) (Tm 17)),Om 19 0,Om 20 1,Oa 21 (.minmax true (Tm 19) (Tm 20)),Oa 22 (.build Za [(0,1,(Kz 5)),(5,1,(Tm 18)),(6,1,(Tm 21))]),Oy 7 4 22,Oa 5 (.mov (Kz 0))]) (.ret)))⟩
theorem low40 : zf Tryz.prog gl0 40 = some lf40 := Go.Abs.lowF (by kernel_rfl)
def lf46 : LFunc := ⟨9,[.cell 2 7 true,.slot 3],.seq (.region [Oa 2 (.newv 7 78 (.cst Za)),Oa 3 (.mov (Kz 0))]) (.seq (.seq (.region [Om 4 0,Oa 5 (.bin .lss (Tm 4) (Kz 0))]) (.cond (Tm 5) (.seq (.region [Oa 6 (.build Za []),Oy 7 2 6,Oa 3 (.mov (Kz 1))]) (.ret)) (.skip))) (.seq (.region [Om 7 0,Oa 8 (.build Za [(0,1,(Kz 6)),(5,1,(Tm 7))]),Oy 7 2 8,Oa 3 (.mov (Kz 0))]) (.ret)))⟩
theorem low46 : zf Tryz.prog gl0 46 = some lf46 := Go.Abs.lowF (by kernel_rfl)
def lf7 : LFunc := ⟨12,[.slot 4],.seq (.region [Oa 4 (.mov (Kz 0))]) (.seq (.region [Om 5 0,Om 6 1,Oa 7 (.bin .rem (Tm 5) (Tm 6)),Om 8 1,Oa 9 (.bin .add (Tm 7) (Tm 8)),Om 10 1,Oa 11 (.bin .rem (Tm 9) (Tm 10)),Om 4 11]) (.ret))⟩
theorem low7 : zf Tryz.prog gl0 7 = some lf7 := Go.Abs.lowF (by kernel_rfl)
def lf50 : LFunc := ⟨83,[.slot 2],.seq (.region [Oa 1 (.newv 7 78 (Tm 0)),Oa 2 (.mov Kg)]) (.seq (.seq (.region [Oz 5 0 1,Oq 6 1 false 5]) (.block 0 (.seq (.region [Oa 8 (.bin .eql (Tm 6) (Kz 5)),Om 7 8]) (.cond (Tm 7) (.seq (.region [Oz 9 5 1,Oq 10 1 false 9,Oa 11 (.bin .geq (Tm 10) (Kz 0)),Om 12 11,Oc 13 12 (.fadr 5 (Tm 1)),Oc 14 12 (.load 1 false (Tm 13)),Oc 15 12 (.fadr 6 (Tm 1)),Oc 16 12 (.load 1 false (Tm 15)),Oc 17 12 (.bin .lss (Tm 14) (Tm 16)),Ot 18 12 17,Om 19 18,Oc 20 19 (.fadr 1 (Tm 1)),Oc 21 19 (.load 4 true (Tm 20)),Oc 22 19 (.call 82 [Tm 21]),Ot 23 19 22,Om 2 23]) (.ret)) (.seq (.region [Oa 25 (.bin .eql (Tm 6) (Kz 6)),Om 24 25]) (.cond (Tm 24) (.seq (.region [Oz 26 5 1,Oq 27 1 false 26,Oa 28 (.bin .geq (Tm 27) (Kz 0)),Om 29 28,Oc 30 29 (.fadr 6 (Tm 1)),Oc 31 29 (.load 1 false (Tm 30)),Oc 32 29 (.bin .eql (Tm 31) (Kz 0)),Ot 33 29 32,Om 34 33,Oc 35 34 (.fadr 1 (Tm 1)),Oc 36 34 (.load 4 true (Tm 35)),Oc 37 34 (.call 82 [Tm 36]),Ot 38 34 37,Om 2 38]) (.ret)) (.seq (.seq (.region [Oa 40 (.bin .eql (Tm 6) (Kz 1)),Om 39 40]) (.cond (Tm 39) (.skip) (.seq (.region [Oa 41 (.bin .eql (Tm 6) (Kz 2)),Om 39 41]) (.cond (Tm 39) (.skip) (.region [Oa 42 (.bin .eql (Tm 6) (Kz 3)),Om 39 42]))))) (.cond (Tm 39) (.skip) (.seq (.region [Oa 2 (.mov Kg)]) (.ret)))))))))) (.seq (.seq (.region [Oz 43 5 1,Oq 44 1 false 43,Oa 45 (.bin .neq (Tm 44) (Kz 0)),Om 46 45,Od 47 46 (.fadr 6 (Tm 1)),Od 48 46 (.load 1 false (Tm 47)),Od 49 46 (.bin .neq (Tm 48) (Kz 0)),Ou 50 46 49,Om 51 50,Od 52 51 (.fadr 1 (Tm 1)),Od 53 51 (.load 4 true (Tm 52)),Od 54 51 (.call 83 [Tm 53]),Od 55 51 (.un .not (Tm 54)),Ou 56 51 55]) (.cond (Tm 56) (.seq (.region [Oa 2 (.mov Kg)]) (.ret)) (.skip))) (.seq (.seq (.region [Oz 57 1 1,Oz 58 0 57,Oq 59 1 false 58,Oa 60 (.len (Tm 59)),Oa 61 (.bin .eql (Tm 60) (Kz 0))]) (.cond (Tm 61) (.seq (.region [Oa 2 (.mov Kt)]) (.ret)) (.skip))) (.seq (.region [Oz 62 1 1,Oz 63 0 62,Oq 64 1 false 63,Oa 65 (.iadr 4 (Tm 64) (Kz 0)),Oz 66 0 65,Oq 67 3 true 66,Oa 3 (.newv 3 33 (.cst Zr)),Oy 3 3 67])
 (.seq (.region [Oa 68 (.call 19 [.cst (.p (.int .i64 1)),.cst (.p (.int .i64 1))]),Oa 4 (.newv 3 33 (.cst Zr)),Oy 3 4 68]) (.seq (.regionD [Oq 69 3 true 3,Oq 70 3 true 4,Oa 71 (.call 36 [Tm 69,Tm 70]),Om 72 71,Od 73 72 (.fadr 0 (Tm 1)),Od 74 72 (.load 1 false (Tm 73)),Od 75 72 (.bin .neq (Tm 74) (Kz 3)),Oo 76 72 75,Oc 77 76 (.load 3 true (Tm 3)),Oc 78 76 (.call 84 [Tm 77]),Oc 79 76 (.load 3 true (Tm 4)),Oc 80 76 (.call 36 [Tm 78,Tm 79]),Od 81 72 (.pick (Tm 76) (Tm 80) Kg),Ou 82 72 81,Om 2 82]) (.ret)))))))⟩
theorem low50 : zf Tryz.prog gl0 50 = some lf50 := Go.Abs.lowF (by kernel_rfl)
def lf26 : LFunc := ⟨30,[.slot 4,.slot 5],.seq (.region [Oa 2 (.newv 7 78 (Tm 0)),Oa 4 (.mov Kg),Oa 5 (.mov (Kz 0))]) (.seq (.seq (.region [Oq 8 7 true 2,Oa 9 (.call 50 [Tm 8]),Oa 10 (.un .not (Tm 9)),Om 11 10,Od 12 11 (.fadr 0 (Tm 2)),Od 13 11 (.load 1 false (Tm 12)),Od 14 11 (.bin .gtr (Tm 13) (Kz 3)),Ou 15 11 14]) (.cond (Tm 15) (.seq (.region [Oa 4 (.mov Kg),Oa 5 (.mov (Kz 1))]) (.ret)) (.skip))) (.seq (.region [Oz 17 1 2,Oq 18 4 true 17,Om 19 1,Oa 20 (.call 51 [Tm 18,Tm 19]),Om 16 20,Ox 21 16 0,Ox 22 16 1,Oa 6 (.newv 3 33 (.cst Zr)),Oy 3 6 21,Om 7 22]) (.seq (.seq (.region [Om 23 7,Oa 24 (.bin .neq (Tm 23) (Kz 0))]) (.cond (Tm 24) (.seq (.region [Om 25 7,Oa 4 (.mov Kg),Om 5 25]) (.ret)) (.skip))) (.seq (.region [Oz 26 0 2,Oq 27 1 false 26,Oq 28 3 true 6,Oa 29 (.call 52 [Tm 27,Tm 28]),Om 4 29,Oa 5 (.mov (Kz 0))]) (.ret)))))⟩
theorem low26 : zf Tryz.prog gl0 26 = some lf26 := Go.Abs.lowF (by kernel_rfl)
def lf52 : LFunc := ⟨19,[.slot 4],.seq (.region [Oa 3 (.newv 3 33 (Tm 1)),Oa 4 (.mov Kg)]) (.seq (.region [Oq 6 3 true 3,Oa 7 (.call 89 [Tm 6]),Om 5 7]) (.seq (.seq (.region [Om 8 0]) (.block 0 (.seq (.region [Oa 10 (.bin .eql (Tm 8) (Kz 1)),Om 9 10]) (.cond (Tm 9) (.seq (.region [Om 11 5,Oa 12 (.bin .leq (Tm 11) (Kz 0)),Om 4 12]) (.ret)) (.seq (.region [Oa 14 (.bin .eql (Tm 8) (Kz 2)),Om 13 14]) (.cond (Tm 13) (.seq (.region [Om 15 5,Oa 16 (.bin .lss (Tm 15) (Kz 0)),Om 4 16]) (.ret)) (.skip))))))) (.seq (.region [Om 17 5,Oa 18 (.bin .eql (Tm 17) (Kz 0)),Om 4 18]) (.ret))))⟩
theorem low52 : zf Tryz.prog gl0 52 = some lf52 := Go.Abs.lowF (by kernel_rfl)
def lf82 : LFunc := ⟨27,[.slot 2],.seq (.region [Oa 1 (.newv 4 76 (Tm 0)),Oa 2 (.mov Kg)]) (.seq (.region [Oz 3 0 1,Oq 4 1 false 3,Oa 5 (.len (Tm 4)),Oa 6 (.bin .eql (Tm 5) (Kz 0)),Om 7 6,Oc 8 7 (.fadr 1 (Tm 1)),Oc 9 7 (.fadr 0 (Tm 8)),Oc 10 7 (.load 1 false (Tm 9)),Oc 11 7 (.un .not (Tm 10)),Ot 12 7 11,Om 13 12,Oc 14 13 (.fadr 1 (Tm 1)),Oc 15 13 (.fadr 1 (Tm 14)),Oc 16 13 (.load 1 false (Tm 15)),Oc 17 13 (.len (Tm 16)),Oc 18 13 (.bin .eql (Tm 17) (Kz 0)),Ot 19 13 18,Om 20 19,Oc 21 20 (.fadr 1 (Tm 1)),Oc 22 20 (.fadr 2 (Tm 21)),Oc 23 20 (.load 1 false (Tm 22)),Oc 24 20 (.len (Tm 23)),Oc 25 20 (.bin .eql (Tm 24) (Kz 0)),Ot 26 20 25,Om 2 26]) (.ret))⟩
theorem low82 : zf Tryz.prog gl0 82 = some lf82 := Go.Abs.lowF (by kernel_rfl)
end Go.Proofs.YtgbjjikaenlkmaaGreat

namespace Go.Proofs.YtgbjjikaenlkmaaGreat
open Go Go.Abs Go.Limbs
variable {base : Prot}
set_option maxRecDepth 20000
attribute [local irreducible] vc
attribute [local simp] za zi freezeL fuel zk u64 au
structure At where
 k : Int
 p : Po
 a : Int
 b : Int
def At.enc (x : At) : PVal := .agg [.int .i64 x.k, .lst (x.p.ps.map Pa.enc), .bool x.p.c.s, .lst (x.p.c.n.map u64), .lst (x.p.c.d.map u64), .int .i64 x.a, .int .i64 x.b]
def ma : PVal → Option At
 | .agg [.int .i64 k, .lst vs, .bool s, .lst xs, .lst ys, .int .i64 a, .int .i64 b] => match tc vs, jJ xs, jJ ys with | some ps, some l, some m => some ⟨k, ⟨ps, ⟨s, l, m⟩⟩, a, b⟩ | _, _, _ => none
 | _ => none
theorem nk {x : At} (h : x.p.wf) : ma x.enc = some x := by simp only [ma, At.enc, nh h.1, zX h.2.1, zX h.2.2]
theorem dT {v : PVal} {x : At} (h : ma v = some x) : v = x.enc ∧ x.p.wf := by
 unfold ma at h
 split at h
 ·rename_i k vs s xs ys a b
  split at h
  ·rename_i ps l m hp hl hm
   cases h
   obtain ⟨rfl, wp⟩ := dR hp
   obtain ⟨rfl, wl⟩ := zI hl
   obtain ⟨rfl, wm⟩ := zI hm
   exact ⟨rfl, wp, wl, wm⟩
  ·cases h
 ·cases h
def h1 (g : At → PVal) : List PVal → Option PVal
 | [a] => match ma a with | some x => some (g x) | none => none
 | _ => none
def h2 (g : At → At → PVal) : List PVal → Option PVal
 | [a, b] => match ma a, ma b with | some x, some y => some (g x y) | _, _ => none
 | _ => none
theorem h1_at {g : At → PVal} {x : At} (h : x.p.wf) : h1 g [x.enc] = some (g x) := by simp only [h1, nk h]
theorem h1_some {g : At → PVal} {args : List PVal} {z : PVal} (h : h1 g args = some z) : ∃ x : At, x.p.wf ∧ args = [x.enc] ∧ z = g x := by
 unfold h1 at h
 split at h
 ·split at h
  ·rename_i x hx
   obtain ⟨rfl, w⟩ := dT hx
   cases h
   exact ⟨x, w, rfl, rfl⟩
  ·cases h
 ·cases h
def j7 (k : Int) : Bool := decide (k = 1) || (decide (k = 2) || decide (k = 3))
def unitF (c : Fr) (minus : Bool) : Bool := decide (c = ofQ 1) || (minus && decide (c = ofQ (-1)))
def headU (k : Int) : List Pa → Bool
 | [] => true
 | x :: _ => unitF x.c (decide (k ≠ 3))
def At.ok (x : At) : Bool :=
 if j7 x.k = true then decide (x.a = 0) && (decide (x.b = 0) && (x.p.ok && headU x.k x.p.ps))
 else if x.k = 5 then decide (0 ≤ x.a) && (decide (x.a < x.b) && decide (x.p = zPo))
 else if x.k = 6 then decide (0 ≤ x.a) && (decide (x.b = 0) && decide (x.p = zPo))
 else false
def okAt (x : At) : PVal := .bool x.ok
def zAt : At := ⟨0, zPo, 0, 0⟩
def soF (k : Int) (s : Int) : Bool := if k = 1 then decide (s ≤ 0) else if k = 2 then decide (s < 0) else decide (s = 0)
def sSum : List PVal → Option PVal
 | [.int .i64 k] => some (.bool (j7 k))
 | _ => none
theorem asum_ok : zG Tryz.prog base 76 (za sSum) := by
 refine zd zB Tab.none_ok ze low76 fun args z hs hf => ?_
 unfold sSum at hs
 split at hs
 case h_2 => cases hs
 rename_i k
 cases hs
 refine ⟨by simp [lf76], ?_⟩
 unfold j7
 have e : ∀ n : Int, (k == n) = decide (k = n) := fun n => rfl
 by_cases h1 : k = 1
 ·subst h1; simp [lf76]
 ·by_cases h2 : k = 2
  ·subst h2; simp [lf76]
  ·simp [lf76, e, h1, h2]
def iM (p : Po) : PVal := .bool (decide (p = zPo))
theorem sSum_at (k : Int) : sSum [.int .i64 k] = some (.bool (j7 k)) := rfl
instance : DecidableEq At := fun x y => if h : x.k = y.k ∧ x.p = y.p ∧ x.a = y.a ∧ x.b = y.b then .isTrue (by cases x; cases y; obtain ⟨a, b, c, d⟩ := h; simp_all) else .isFalse (fun e => h (by rw [e]; exact ⟨rfl, rfl, rfl, rfl⟩))
def g1v (g : Po → PVal) : List PVal → Option PVal
 | [a] => match kU a with | some p => if (p.few && p.ok) = true then some (g p) else none | _ => none
 | _ => none
theorem g1v_at {g : Po → PVal} {p : Po} (h : p.wf) (f1 : p.few = true) (f2 : p.ok = true) : g1v g [p.enc] = some (g p) := by simp only [g1v, jF h, f1, f2, Bool.and_self, if_true]
theorem g1v_some {g : Po → PVal} {args : List PVal} {z : PVal} (h : g1v g args = some z) : ∃ p : Po, p.wf ∧ p.few = true ∧ p.ok = true ∧ args = [p.enc] ∧ z = g p := by
 unfold g1v at h
 split at h
 ·split at h
  ·rename_i p hp
   obtain ⟨rfl, w⟩ := vL hp
   split at h
   ·rename_i hf
    rw [Bool.and_eq_true] at hf
    cases h; exact ⟨p, w, hf.1, hf.2, rfl, rfl⟩
   ·cases h
  ·cases h
 ·cases h
def Tcp : Tab := Tab.none.with 75 (za pD)
theorem Tcp_ok : TabOk Tryz.prog base Tcp := Tab.with_ok Tab.none_ok fZ
theorem Tcp_mu (f : FuncId) (a : List AVal) (H : zb) : Tcp.mu f a H = none := (rfl)
theorem Tcp_fns : Tcp.fn 75 = (za pD) := (rfl)
theorem lcopy_ok : zG Tryz.prog base 77 (za (g1v Po.enc)) := by
 refine zd zB Tcp_ok ze low77 fun args z hs hf => ?_
 obtain ⟨p, wp, fp, op, rfl, rfl⟩ := g1v_some hs
 refine ⟨by simp [lf77], ?_⟩
 have hlen := sZ fp
 have hm := yl
 have v1 := gC wp.2 (uA op)
 simp only [Po.enc, Fr.enc] at v1 ⊢
 simp [lf77, v1, Tcp_mu, Tcp_fns]
 simp only [lf77_B0, zr]
 refine zo (fun fr H => ∃ (i : Nat) (x : AVal) (ex : zb), H = ⟨4, 0, false, [.p p.enc], 76⟩ :: ⟨4, 0, false, [.agg [x, .p (.bool p.c.s), .p (.lst (p.c.n.map u64)), .p (.lst (p.c.d.map u64))]], 76⟩ :: ex ∧
   i ≤ p.ps.length ∧ Grown 2 4 93 ((p.ps.take i).map Pa.enc) x ex ∧ fr 2 = .optr 1 0 0 0 ∧ fr 10 = .p (.lst (p.ps.map Pa.enc)) ∧ fr 11 = .p (.int .i64 p.ps.length) ∧ fr 12 = .p (.int .i64 i)) (fun fr _ => p.ps.length - zD (fr 12))
  ⟨0, .tight [], [], by simp [Po.enc], by omega, by simp; exact .nil _ _ _ _, by simp, by simp, by simp, by simp⟩ ?_
 rintro fr H ⟨i, x, ex, rfl, hi, hg, f2', f10, f11, f12⟩
 by_cases h1 : i < p.ps.length
 ·obtain ⟨y, hy⟩ : ∃ y, p.ps[i]? = some y := ⟨_, List.getElem?_eq_getElem h1⟩
  have hye := zZ hy
  have hw := zs (i := i) (by omega)
  have htk := db hy
  have vy := gC (wp.1 y (List.mem_of_getElem? hy)) (yV op (List.mem_of_getElem? hy))
  have hnew : (p.ps.take (i + 1)).map Pa.enc = (p.ps.take i).map Pa.enc ++ [y.enc] := by rw [htk, List.map_append]; rfl
  obtain ⟨fl, hfl⟩ : ∃ fl, fl = (p.ps.take i).map Pa.enc := ⟨_, rfl⟩
  have hfll : fl.length ≤ 1000000 := by rw [hfl]; simp; omega
  rw [← hfl] at hg hnew
  obtain ⟨k', v', ex', happ, hg'⟩ := (hg.more [⟨4, 0, false, [.p y.enc], 93⟩, ⟨4, 0, false, [.p y.enc], 93⟩]).app
   (pre := [⟨4, 0, false, [.p p.enc], 76⟩, ⟨4, 0, false, [.agg [x, .p (.bool p.c.s), .p (.lst (p.c.n.map u64)), .p (.lst (p.c.d.map u64))]], 76⟩]) rfl (y := y.enc) rfl rfl (by omega) (bytes := 64) (by omega) (by omega)
  simp only [Fr.enc] at vy
  simp only [Po.enc, Pa.enc, List.cons_append, List.nil_append] at happ
  rcases hg.form with rfl | ⟨kk, nn, vv, rfl⟩
  all_goals
   simp [f10, f11, f12, h1, hye, Pa.enc, Po.enc]
   rw [zu]
   refine ⟨[], ?_⟩
   simp [f2', f10, f11, f12, vy, hw, zD, zN, -qC, happ, Tcp_mu, Tcp_fns]
   exact ⟨snoc2', ⟨i + 1, _, _, ⟨rfl, rfl⟩, by omega, by rw [← List.map_take, hnew]; exact hg', by omega⟩, by omega⟩
 ·have hil : i = p.ps.length := by omega
  rw [hil, List.take_length] at hg
  rcases hg with ⟨he, rfl⟩ | ⟨j, v, rfl, hj⟩
  ·have hnil : p.ps = [] := by simpa using he
   have hi0 : i = 0 := by rw [hil, hnil]; rfl
   subst hi0
   simp [f2', f11, f12, hnil, Po.enc]
  ·simp [f2', f11, f12, h1, hj, get2, fY, jN, Po.enc]
def kB (k : Int) (p : Po) : Fr := match p.ps with
 | [] => if zW p.c < 0 then yX p.c else p.c
 | x :: _ => if zW x.c < 0 ∧ k ≠ 3 then yX x.c else x.c
theorem eu {k : Int} {p : Po} (h : p.wf) : (kB k p).wf := by
 unfold kB
 split
 ·split
  ·exact x8 _
  ·exact h.2
 ·rename_i x r hx
  split
  ·exact x8 _
  ·exact h.1 x (by rw [hx]; simp)
def dA : List PVal → Option PVal
 | [.int .i64 k, a] => match kU a with | some p => some (kB k p).enc | none => none
 | _ => none
theorem sSize9_at {k : Int} {p : Po} (h : p.wf) : dA [.int .i64 k, p.enc] = some (kB k p).enc := by simp only [dA, jF h]
def Tasz : Tab := (Tab.none.with 71 (za (f1 wG))).with 118 (za (f1 bS))
theorem Tasz_ok : TabOk Tryz.prog base Tasz := Tab.with_ok (Tab.with_ok Tab.none_ok gJ) qneg_ok
theorem cV (f : FuncId) (a : List AVal) (H : zb) : Tasz.mu f a H = none := (rfl)
theorem yA : Tasz.fn 71 = (za (f1 wG)) ∧ Tasz.fn 118 = (za (f1 bS)) := ⟨rfl, rfl⟩
theorem asize_ok : zG Tryz.prog base 78 (za dA) := by
 refine zd zB Tasz_ok ze low78 fun args z hs hf => ?_
 unfold dA at hs
 split at hs
 case h_2 => cases hs
 rename_i k a
 split at hs
 case h_2 => cases hs
 rename_i p hp
 obtain ⟨rfl, wp⟩ := vL hp
 cases hs
 refine ⟨by simp [lf78], ?_⟩
 have ek : (k != 3) = decide (k ≠ 3) := by rw [bne, show (k == 3) = decide (k = 3) from rfl]; simp
 obtain ⟨ps, pc⟩ := p
 cases ps with
 | nil =>
  have v1 : f1 wG [pc.enc] = some (.int .i64 (zW pc)) := j8 wp.2
  have v2 : f1 bS [pc.enc] = some (yX pc).enc := j8 wp.2
  unfold kB
  simp only
  obtain ⟨nc, hnc⟩ : ∃ n, n = yX pc := ⟨_, rfl⟩
  rw [← hnc] at v2 ⊢
  by_cases hs : zW pc < 0
  ·by_cases h3 : k = 3
   ·subst h3
    rw [if_pos hs]
    simp only [Po.enc, Fr.enc, List.map_nil] at v1 v2 ⊢
    simp [lf78, v1, v2, hs, cV, yA]
   ·rw [if_pos hs]
    rw [decide_eq_true h3] at ek
    simp only [Po.enc, Fr.enc, List.map_nil] at v1 v2 ⊢
    simp [lf78, v1, v2, hs, ek, cV, yA]
  ·rw [if_neg hs]
   simp only [Po.enc, Fr.enc, List.map_nil] at v1 v2 ⊢
   simp [lf78, v1, hs, cV, yA]
 | cons x ps =>
  have wx : x.c.wf := wp.1 x (by simp)
  have v1 : f1 wG [x.c.enc] = some (.int .i64 (zW x.c)) := j8 wx
  have v2 : f1 bS [x.c.enc] = some (yX x.c).enc := j8 wx
  have hp1 : (0 : Int) < (ps.length : Int) + 1 := by omega
  have hp2 : ((ps.length : Int) + 1 == 0) = false := by simp; omega
  unfold kB
  simp only
  obtain ⟨nc, hnc⟩ : ∃ n, n = yX x.c := ⟨_, rfl⟩
  rw [← hnc] at v2 ⊢
  by_cases hs : zW x.c < 0
  ·by_cases h3 : k = 3
   ·subst h3
    rw [if_neg (by simp)]
    simp only [Po.enc, Fr.enc, Pa.enc, List.map_cons] at v1 v2 ⊢
    simp [lf78, v1, hs, hp1, hp2, cV, yA]
   ·rw [if_pos ⟨hs, h3⟩]
    rw [decide_eq_true h3] at ek
    simp only [Po.enc, Fr.enc, Pa.enc, List.map_cons] at v1 v2 ⊢
    simp [lf78, v1, v2, hs, ek, hp1, cV, yA]
  ·rw [if_neg (fun h => hs h.1)]
   simp only [Po.enc, Fr.enc, Pa.enc, List.map_cons] at v1 v2 ⊢
   simp [lf78, v1, hs, hp1, cV, yA]
def k3 (k : Int) : Int := if k = 4 then 3 else k
def sJ (k : Int) (p : Po) : At × Bool × Nat :=
 if j7 (k3 k) && p.ok then
  match p.ps with
  | [] => (⟨k3 k, ⟨[], ofQ (Rat.divInt (zW p.c) 1)⟩, 0, 0⟩, decide (k = 4), 0)
  | _ :: _ => if (cW (ofQ 1) (kB (k3 k) p)).2 = 0 then
    (if (kx p (cW (ofQ 1) (kB (k3 k) p)).1).2 = 0 then (⟨k3 k, (kx p (cW (ofQ 1) (kB (k3 k) p)).1).1, 0, 0⟩, decide (k = 4), 0)
     else (zAt, false, (kx p (cW (ofQ 1) (kB (k3 k) p)).1).2))
    else (zAt, false, (cW (ofQ 1) (kB (k3 k) p)).2)
 else (zAt, false, 1)
def tripAt (r : At × Bool × Nat) : PVal := .tup [r.1.enc, .bool r.2.1, .int .i64 r.2.2]
def ki (g : Int → Po → PVal) : List PVal → Option PVal
 | [.int .i64 k, a] => match kU a with | some p => if p.few = true then some (g k p) else none | none => none
 | _ => none
theorem ki_at {g : Int → Po → PVal} {k : Int} {p : Po} (h : p.wf) (f : p.few = true) : ki g [.int .i64 k, p.enc] = some (g k p) := by simp only [ki, jF h, f, if_true]
theorem ki_some {g : Int → Po → PVal} {args : List PVal} {z : PVal} (h : ki g args = some z) : ∃ (k : Int) (p : Po), p.wf ∧ p.few = true ∧ args = [.int .i64 k, p.enc] ∧ z = g k p := by
 unfold ki at h
 split at h
 ·split at h
  ·rename_i p hp
   obtain ⟨rfl, w⟩ := vL hp
   split at h
   ·cases h; exact ⟨_, p, w, by assumption, rfl, rfl⟩
   ·cases h
  ·cases h
 ·cases h
def aR (k : Int) (p : Po) : PVal := tripAt (sJ k p)
theorem wf_makeAt {k : Int} {p : Po} : (sJ k p).1.p.wf := by
 unfold sJ
 split
 ·split
  ·exact ⟨fun x hx => (by cases hx), wS _⟩
  ·split
   ·split
    ·exact p8 _ _
    ·exact jK
   ·exact jK
 ·exact jK
theorem lD (x : Fr) : (-1000 ≤ zW x ∧ zW x ≤ 1000) ∧ (-1000 ≤ (1 : Int) ∧ (1 : Int) ≤ 1000) := by
 unfold zW
 split
 ·rcases cmpQ_case x.q 0 with h | h | h <;> rw [h] <;> decide
 ·decide
theorem eJ {x : Fr} (h : x.ok = true) : zW (yX x) = - zW x := by
 obtain ⟨q, hq, rfl⟩ := Fr.ok_of h
 rw [gO hq, yh (Sm_neg hq), yh hq]
 rcases fN q 0 with h | h | h
 ·rw [pT h, pU (by grind)]; rfl
 ·subst h; rfl
 ·rw [pU h, pT (by grind)]
theorem of_sign0 {x : Fr} (h : x.ok = true) (h0 : zW x = 0) : x = ofQ (Rat.divInt (zW x) 1) := by
 obtain ⟨q, hq, rfl⟩ := Fr.ok_of h
 rw [yh hq] at h0 ⊢
 rw [h0]
 have := dt.1 h0
 subst this
 rfl
theorem gM : ∀ {l : List Pa} {k : Int}, qL k l = true → ∀ x ∈ l, x.c.n ≠ []
 | y :: r, k, h, x, hx => by
  unfold qL at h
  rw [Bool.and_eq_true, Bool.and_eq_true, Bool.and_eq_true] at h
  rcases List.mem_cons.1 hx with rfl | hx
  ·simpa using h.1.2
  ·exact gM h.2 x hx
theorem aH {p : Po} (h : p.ok = true) {x : Pa} (hx : x ∈ p.ps) : x.c.n ≠ [] := by
 unfold Po.ok at h
 rw [Bool.and_eq_true] at h
 exact gM h.1 x hx
theorem size_sign {k : Int} {p : Po} (h : p.ok = true) : (zW (kB k p) == 0) = (match p.ps with | [] => zW p.c == 0 | _ => false) := by
 unfold kB
 cases hp : p.ps with
 | nil =>
  simp only
  split
  ·rw [eJ (uA h), Bool.eq_iff_iff, beq_iff_eq, beq_iff_eq]; omega
  ·rfl
 | cons x r =>
  have hx : x ∈ p.ps := by rw [hp]; simp
  have ho := yV h hx
  have hn := aH h hx
  simp only
  split
  ·rw [eJ ho, Bool.eq_false_iff, ne_eq, beq_iff_eq]
   intro h0
   have := jP ho
   rw [show (zW x.c == 0) = true from by rw [beq_iff_eq]; omega] at this
   exact hn (of_decide_eq_true this.symm)
  ·rw [jP ho]
   exact decide_eq_false hn
def Tmk : Tab := (((((((Tab.none.with 76 (za sSum)).with 68 (za (g1 yW))).with 77 (za (g1v Po.enc))).with 78 (za dA)).with 71 (za (f1 wG))).with 43 (za uK)).with 79 (za (f2 tS))).with 41 (za (gks bF))
theorem Tmk_ok : TabOk Tryz.prog base Tmk := Tab.with_ok (Tab.with_ok (Tab.with_ok (Tab.with_ok (Tab.with_ok (Tab.with_ok (Tab.with_ok (Tab.with_ok Tab.none_ok asum_ok) xD) lcopy_ok) asize_ok) gJ) l6) qquo_ok) eN
theorem wO (f : FuncId) (a : List AVal) (H : zb) : Tmk.mu f a H = none := (rfl)
theorem qH : Tmk.fn 76 = (za sSum) ∧ Tmk.fn 68 = (za (g1 yW)) ∧ Tmk.fn 77 = (za (g1v Po.enc)) ∧ Tmk.fn 78 = (za dA) ∧ Tmk.fn 71 = (za (f1 wG)) ∧ Tmk.fn 43 = (za uK) ∧ Tmk.fn 79 = (za (f2 tS)) ∧ Tmk.fn 41 = (za (gks bF)) := ⟨rfl, rfl, rfl, rfl, rfl, rfl, rfl, rfl⟩
theorem amake_ok : zG Tryz.prog base 45 (za (ki aR)) := by
 refine zd zB Tmk_ok ze low45 fun args z hs hf => ?_
 obtain ⟨k, p, wp, fp, rfl, rfl⟩ := ki_some hs
 refine ⟨by simp [lf45], ?_⟩
 have ek : (k == 4) = decide (k = 4) := rfl
 obtain ⟨kk, hkk⟩ : ∃ kk, kk = k3 k := ⟨_, rfl⟩
 have v1 := sSum_at kk
 have v2 : g1 yW [p.enc] = some (.bool p.ok) := sU wp
 have v4 : dA [.int .i64 kk, p.enc] = some (kB kk p).enc := sSize9_at wp
 have v5 : f1 wG [(kB kk p).enc] = some (.int .i64 (zW (kB kk p))) := j8 (eu wp)
 have v6 : f1 wG [p.c.enc] = some (.int .i64 (zW p.c)) := j8 wp.2
 have o1 := ofR (n := 1) (d := 1) (by decide)
 rw [p1_eq] at o1
 have os := ofR (lD p.c)
 unfold aR tripAt sJ
 rw [← hkk]
 have hk : (k = 4 ∧ kk = 3 ∧ decide (k = 4) = true) ∨ (¬ k = 4 ∧ kk = k ∧ decide (k = 4) = false) := by
  unfold k3 at hkk
  by_cases h : k = 4
  ·rw [if_pos h] at hkk; exact .inl ⟨h, hkk, decide_eq_true h⟩
  ·rw [if_neg h] at hkk; exact .inr ⟨h, hkk, decide_eq_false h⟩
 cases hsum : j7 kk with
 | false =>
  rw [hsum] at v1
  simp only [zAt, zPo, zF, At.enc, Po.enc] at v1 ⊢
  rcases hk with ⟨rfl, rfl, hd⟩ | ⟨h4, rfl, hd⟩
  ·simp [lf45, v1, wO, qH]
  ·simp [lf45, v1, ek, h4, wO, qH]
 | true =>
 rw [hsum] at v1
 cases hok : p.ok with
 | false =>
  rw [hok] at v2
  simp only [zAt, zPo, zF, At.enc, Po.enc] at v1 v2 ⊢
  rcases hk with ⟨rfl, rfl, hd⟩ | ⟨h4, rfl, hd⟩
  ·simp [lf45, v1, v2, wO, qH]
  ·simp [lf45, v1, v2, ek, h4, wO, qH]
 | true =>
 rw [hok] at v2
 have v3 : g1v Po.enc [p.enc] = some p.enc := g1v_at wp fp hok
 have hsg := size_sign (k := kk) hok
 obtain ⟨sz, hsz⟩ : ∃ s, s = kB kk p := ⟨_, rfl⟩
 have wsz : sz.wf := by rw [hsz]; exact eu wp
 rw [← hsz] at v4 v5 hsg ⊢
 cases hps : p.ps with
 | nil =>
  rw [hps] at hsg
  simp only at hsg
  simp only [Bool.and_self, if_true]
  by_cases h0 : zW p.c = 0
  ·have hc := of_sign0 (uA hok) h0
   rw [show (zW p.c == 0) = true from by rw [h0]; rfl] at hsg
   rw [← hc]
   simp only [At.enc, Po.enc, Fr.enc, hps, List.map_nil] at v1 v2 v3 v4 v5 ⊢
   rcases hk with ⟨rfl, rfl, hd⟩ | ⟨h4, rfl, hd⟩
   ·simp [lf45, v1, v2, v3, v4, v5, hsg, wO, qH]
   ·simp [lf45, v1, v2, v3, v4, v5, hsg, ek, h4, wO, qH]
  ·rw [show (zW p.c == 0) = false from by simpa using h0] at hsg
   obtain ⟨y, hy⟩ : ∃ y, y = ofQ (Rat.divInt (zW p.c) 1) := ⟨_, rfl⟩
   rw [← hy] at os ⊢
   simp only [At.enc, Po.enc, Fr.enc, hps, List.map_nil] at v1 v2 v3 v4 v5 v6 os ⊢
   rcases hk with ⟨rfl, rfl, hd⟩ | ⟨h4, rfl, hd⟩
   ·simp [lf45, v1, v2, v3, v4, v5, v6, os, hsg, wO, qH]
   ·simp [lf45, v1, v2, v3, v4, v5, v6, os, hsg, ek, h4, wO, qH]
 | cons x r =>
  rw [hps] at hsg
  simp only at hsg
  have hl0 : ((r.length : Int) + 1 == 0) = false := by simp; omega
  have v7 := quoP_at (x := ofQ 1) (wS 1) wsz
  obtain ⟨q, hq⟩ : ∃ q, q = cW (ofQ 1) sz := ⟨_, rfl⟩
  have wq : q.1.wf := by rw [hq]; exact wf_quoF _ _
  rw [← hq] at v7 ⊢
  have v8 : gks bF [p.enc, q.1.enc] = some (mT (kx p q.1)) := gks_at wp wq fp
  obtain ⟨s, hs'⟩ : ∃ s, s = kx p q.1 := ⟨_, rfl⟩
  rw [← hs'] at v8 ⊢
  obtain ⟨x1, hx1⟩ : ∃ x, x = ofQ 1 := ⟨_, rfl⟩
  rw [← hx1] at o1 v7
  unfold mT at v8
  simp only [Bool.and_self, if_true]
  by_cases e1 : q.2 = 0
  ·have e1b : ((q.2 : Int) == 0) = true := by rw [e1]; rfl
   by_cases e2 : s.2 = 0
   ·rw [if_pos e1, if_pos e2]
    rw [e1] at v7
    rw [e2] at v8
    simp only [At.enc, Po.enc, Fr.enc, hps, List.map_cons] at v1 v2 v3 v4 v5 v7 v8 o1 ⊢
    rcases hk with ⟨rfl, rfl, hd⟩ | ⟨h4, rfl, hd⟩
    ·simp [lf45, v1, v2, v3, v4, v5, hsg, hl0, wO, qH]
     rw [zu]
     refine ⟨[], ?_⟩
     simp [o1, v7, v8, wO, qH]
    ·simp [lf45, v1, v2, v3, v4, v5, hsg, hl0, ek, h4, wO, qH]
     rw [zu]
     refine ⟨[], ?_⟩
     simp [o1, v7, v8, wO, qH]
   ·rw [if_pos e1, if_neg e2]
    have e2b : ((s.2 : Int) != 0) = true := by simp; omega
    rw [e1] at v7
    simp only [zAt, zPo, zF, At.enc, Po.enc, Fr.enc, hps, List.map_cons, List.map_nil] at v1 v2 v3 v4 v5 v7 v8 o1 ⊢
    rcases hk with ⟨rfl, rfl, hd⟩ | ⟨h4, rfl, hd⟩
    ·simp [lf45, v1, v2, v3, v4, v5, hsg, hl0, wO, qH]
     rw [zu]
     refine ⟨[], ?_⟩
     simp [o1, v7, v8, e2b, wO, qH]
    ·simp [lf45, v1, v2, v3, v4, v5, hsg, hl0, ek, h4, wO, qH]
     rw [zu]
     refine ⟨[], ?_⟩
     simp [o1, v7, v8, e2b, wO, qH]
  ·rw [if_neg e1]
   have e1b : ((q.2 : Int) == 0) = false := by simp; omega
   have e1c : ((q.2 : Int) != 0) = true := by simp; omega
   simp only [zAt, zPo, zF, At.enc, Po.enc, Fr.enc, hps, List.map_cons, List.map_nil] at v1 v2 v3 v4 v5 v7 o1 ⊢
   rcases hk with ⟨rfl, rfl, hd⟩ | ⟨h4, rfl, hd⟩
   ·simp [lf45, v1, v2, v3, v4, v5, hsg, hl0, wO, qH]
    rw [zu]
    refine ⟨[], ?_⟩
    simp [o1, v7, e1b, e1c, wO, qH]
   ·simp [lf45, v1, v2, v3, v4, v5, hsg, hl0, ek, h4, wO, qH]
    rw [zu]
    refine ⟨[], ?_⟩
    simp [o1, v7, e1b, e1c, wO, qH]
theorem lZ : zG Tryz.prog base 82 (za (g1 iM)) := by
 refine zd zB Tab.none_ok ze low82 fun args z hs hf => ?_
 obtain ⟨p, wp, rfl, rfl⟩ := oo hs
 refine ⟨by simp [lf82], ?_⟩
 obtain ⟨ps, ⟨s, n, d⟩⟩ := p
 have e : decide (Po.mk ps ⟨s, n, d⟩ = zPo) = (decide (ps = []) && (!s && (decide (n = []) && decide (d = [])))) := by
  rw [Bool.eq_iff_iff]
  simp [zPo, zF]
 unfold iM
 rw [e]
 have hl : ∀ {α : Type} (l : List α), ((l.length : Int) == 0) = decide (l = []) := fun l => by
  cases l with
  | nil => rfl
  | cons _ _ => simp; omega
 simp only [Po.enc]
 by_cases h1 : ps = []
 ·cases s with
  | true => subst h1; simp [lf82]
  | false =>
   by_cases h2 : n = []
   ·subst h1 h2
    simp [lf82, hl]
   ·subst h1
    simp [lf82, hl, h2]
 ·simp [lf82, hl, h1]
theorem sameF_dec (x y : Fr) : xb x y = decide (x = y) := by
 obtain ⟨s, n, d⟩ := x
 obtain ⟨s', n', d'⟩ := y
 unfold xb
 rw [Bool.eq_iff_iff]
 simp
 try grind
theorem sameP_dec (x y : Fr) : vX x y = .bool (decide (x = y)) := by unfold vX; rw [sameF_dec]
theorem neg_one {c : Fr} (h : c.ok = true) : decide (yX c = ofQ 1) = decide (c = ofQ (-1)) := by
 obtain ⟨q, hq, rfl⟩ := Fr.ok_of h
 rw [gO hq, decide_eq_decide]
 constructor
 ·intro e
  have := ofQ_inj e
  rw [show q = -1 by grind]
 ·intro e
  have := ofQ_inj e
  rw [this]; rfl
def Trvat : Tab := ((((Tab.none.with 82 (za (g1 iM))).with 83 (za (g1 yW))).with 19 (za uK)).with 36 (za (f2 vX))).with 84 (za (f1 bS))
theorem Trvat_ok : TabOk Tryz.prog base Trvat := Tab.with_ok (Tab.with_ok (Tab.with_ok (Tab.with_ok (Tab.with_ok Tab.none_ok lZ) sl) gI) sk) rNeg_ok
theorem cn (f : FuncId) (a : List AVal) (H : zb) : Trvat.mu f a H = none := (rfl)
theorem yz : Trvat.fn 82 = (za (g1 iM)) ∧ Trvat.fn 83 = (za (g1 yW)) ∧ Trvat.fn 19 = (za uK) ∧ Trvat.fn 36 = (za (f2 vX)) ∧ Trvat.fn 84 = (za (f1 bS)) := ⟨rfl, rfl, rfl, rfl, rfl⟩
theorem rvatom_ok : zG Tryz.prog base 50 (za (h1 okAt)) := by
 refine zd zB Trvat_ok ze low50 fun args z hs hf => ?_
 obtain ⟨⟨k, p, a, b⟩, wp, rfl, rfl⟩ := h1_some hs
 refine ⟨by simp [lf50], ?_⟩
 simp only at wp
 have v2 : g1 yW [p.enc] = some (.bool p.ok) := sU wp
 have v3 : g1 iM [p.enc] = some (.bool (decide (p = zPo))) := sU wp
 have ek : ∀ n : Int, (k == n) = decide (k = n) := fun n => rfl
 have ea : (a == 0) = decide (a = 0) := rfl
 have eb : (b == 0) = decide (b = 0) := rfl
 have na : (a != 0) = decide (a ≠ 0) := by rw [bne, ea]; simp
 have nb : (b != 0) = decide (b ≠ 0) := by rw [bne, eb]; simp
 unfold okAt At.ok
 simp only
 obtain ⟨q, hq⟩ : ∃ q, q = decide (p = zPo) := ⟨_, rfl⟩
 by_cases h5 : k = 5
 ·subst h5
  rw [show j7 5 = false from rfl, ← hq]
  rw [← hq] at v3
  simp only [At.enc, Po.enc] at v3 ⊢
  by_cases ha : 0 ≤ a
  ·by_cases hab : a < b
   ·simp [lf50, v3, ha, hab, cn, yz]
   ·simp [lf50, ha, hab]
  ·simp [lf50, ha]
 ·by_cases h6 : k = 6
  ·subst h6
   rw [show j7 6 = false from rfl, ← hq]
   rw [← hq] at v3
   simp only [At.enc, Po.enc] at v3 ⊢
   by_cases ha : 0 ≤ a
   ·by_cases hb : b = 0
    ·simp [lf50, v3, ha, hb, cn, yz]
    ·simp [lf50, ha, eb, hb]
   ·simp [lf50, ha]
  ·rw [if_neg h5, if_neg h6]
   cases hsum : j7 k with
   | false =>
    unfold j7 at hsum
    rw [Bool.or_eq_false_iff, Bool.or_eq_false_iff, decide_eq_false_iff_not, decide_eq_false_iff_not, decide_eq_false_iff_not] at hsum
    obtain ⟨h1, h2, h3⟩ := hsum
    simp only [At.enc]
    simp [lf50, ek, h1, h2, h3, h5, h6]
   | true =>
    have hk : k = 1 ∨ k = 2 ∨ k = 3 := by
     unfold j7 at hsum
     simpa using hsum
    by_cases ha : a = 0
    ·by_cases hb : b = 0
     ·cases hok : p.ok with
      | false =>
       rw [hok] at v2
       simp only [At.enc, Po.enc] at v2 ⊢
       rcases hk with rfl | rfl | rfl <;> simp [lf50, v2, ha, hb, cn, yz]
      | true =>
       rw [hok] at v2
       obtain ⟨ps, pc⟩ := p
       cases ps with
       | nil =>
        simp only [At.enc, Po.enc, List.map_nil] at v2 ⊢
        rcases hk with rfl | rfl | rfl <;> simp [lf50, v2, ha, hb, headU, cn, yz]
       | cons x ps =>
        have hx := yV hok (by simp : x ∈ x :: ps)
        have wx : x.c.wf := wp.1 x (by simp)
        have hl0 : ((ps.length : Int) + 1 == 0) = false := by simp; omega
        have hp1 : (0 : Int) < (ps.length : Int) + 1 := by omega
        have o1 := ofR (n := 1) (d := 1) (by decide)
        rw [p1_eq] at o1
        have s1 : f2 vX [x.c.enc, (ofQ 1).enc] = some (vX x.c (ofQ 1)) := pe wx (wS _)
        have s2 : f2 vX [(yX x.c).enc, (ofQ 1).enc] = some (vX (yX x.c) (ofQ 1)) := pe (x8 _) (wS _)
        have n1 : f1 bS [x.c.enc] = some (yX x.c).enc := j8 wx
        have e2 := neg_one hx
        simp only [headU, unitF]
        rw [sameP_dec] at s1 s2
        rw [← e2]
        obtain ⟨y, hy⟩ : ∃ y, y = yX x.c := ⟨_, rfl⟩
        rw [← hy] at s2 n1 ⊢
        obtain ⟨x1, h1⟩ : ∃ x, x = ofQ 1 := ⟨_, rfl⟩
        rw [← h1] at s1 s2 o1 ⊢
        obtain ⟨b1, hb1⟩ : ∃ b, b = decide (x.c = x1) := ⟨_, rfl⟩
        obtain ⟨b2, hb2⟩ : ∃ b, b = decide (y = x1) := ⟨_, rfl⟩
        rw [← hb1] at s1 ⊢
        rw [← hb2] at s2 ⊢
        simp only [At.enc, Po.enc, Fr.enc, Pa.enc, List.map_cons] at v2 o1 s1 s2 n1 ⊢
        cases b1 <;> rcases hk with rfl | rfl | rfl <;> simp [lf50, v2, o1, s1, s2, n1, ha, hb, hl0, cn, yz]
     ·simp only [At.enc]
      rcases hk with rfl | rfl | rfl <;> simp [lf50, ha, nb, hb]
    ·simp only [At.enc]
     rcases hk with rfl | rfl | rfl <;> simp [lf50, na, ha]
def rS : List PVal → Option PVal
 | [.int .i64 k, a] => match dS a with | some c => some (.bool (soF k (zW c))) | none => none
 | _ => none
theorem sSays_at {k : Int} {c : Fr} (h : c.wf) : rS [.int .i64 k, c.enc] = some (.bool (soF k (zW c))) := by simp only [rS, jf h]
def Trsy : Tab := Tab.none.with 89 (za (f1 wG))
theorem Trsy_ok : TabOk Tryz.prog base Trsy := Tab.with_ok Tab.none_ok rSign_ok
theorem oR (f : FuncId) (a : List AVal) (H : zb) : Trsy.mu f a H = none := (rfl)
theorem tu : Trsy.fn 89 = (za (f1 wG)) := (rfl)
theorem rsays_ok : zG Tryz.prog base 52 (za rS) := by
 refine zd zB Trsy_ok ze low52 fun args z hs hf => ?_
 unfold rS at hs
 split at hs
 case h_2 => cases hs
 rename_i k a
 split at hs
 case h_2 => cases hs
 rename_i c hc
 obtain ⟨rfl, wc⟩ := vn hc
 cases hs
 refine ⟨by simp [lf52], ?_⟩
 have v1 : f1 wG [c.enc] = some (.int .i64 (zW c)) := j8 wc
 have e : ∀ n : Int, (k == n) = decide (k = n) := fun n => rfl
 have e2 : ∀ n : Int, (zW c == n) = decide (zW c = n) := fun n => rfl
 unfold soF
 simp only [Fr.enc] at v1 ⊢
 by_cases h1 : k = 1
 ·subst h1; simp [lf52, v1, oR, tu]
 ·by_cases h2 : k = 2
  ·subst h2; simp [lf52, v1, oR, tu]
  ·simp [lf52, v1, e, e2, h1, h2, oR, tu]
def triv (x : At) : Bool × Bool := if x.ok && j7 x.k && decide (x.p.ps = []) then (soF x.k (zW x.p.c), true) else (false, false)
theorem sum_ok {x : At} (h : x.ok = true) : decide (3 < x.k) = !j7 x.k := by
 unfold At.ok at h
 cases hs : j7 x.k with
 | true =>
  unfold j7 at hs
  simp at hs
  simp
  omega
 | false =>
  rw [hs] at h
  simp only [Bool.false_eq_true, if_false] at h
  split at h
  ·rename_i e; rw [e]; rfl
  ·split at h
   ·rename_i e; rw [e]; rfl
   ·cases h
def uS (lk : Int → Fr) (x : At) : Bool × Nat :=
 if j7 x.k && x.ok then (decide ((kV lk x.p).2 = 0) && soF x.k (zW (kV lk x.p).1), (kV lk x.p).2) else (false, 1)
def ol (r : Bool × Nat) : PVal := .tup [.bool r.1, .int .i64 r.2]
def Trhd : Tab := ((Tab.none.with 50 (za (h1 okAt))).with 51 (za xe)).with 52 (za rS)
theorem Trhd_ok : TabOk Tryz.prog base Trhd := Tab.with_ok (Tab.with_ok (Tab.with_ok Tab.none_ok rvatom_ok) rvalue_ok) rsays_ok
theorem pW (f : FuncId) (a : List AVal) (H : zb) : Trhd.mu f a H = none := (rfl)
theorem mz : Trhd.fn 50 = (za (h1 okAt)) ∧ Trhd.fn 51 = (za xe) ∧ Trhd.fn 52 = (za rS) := ⟨rfl, rfl, rfl⟩
def yJ : List PVal → Option PVal
 | [a, .lst vs] => match ma a, pt vs with | some x, some l => if x.p.few = true then some (ol (uS (jc l) x)) else none | _, _ => none
 | _ => none
theorem lM {x : At} {l : List Bd} (wx : x.p.wf) (fx : x.p.few = true) (wl : wfB l) : yJ [x.enc, .lst (l.map Bd.enc)] = some (ol (uS (jc l) x)) := by simp only [yJ, nk wx, cP wl, fx, if_true]
theorem rholds_ok : zG Tryz.prog base 26 (za yJ) := by
 refine zd zB Trhd_ok ze low26 fun args z hs hf => ?_
 unfold yJ at hs
 split at hs
 case h_2 => cases hs
 rename_i a vs
 split at hs
 case h_2 => cases hs
 rename_i x l hx hl
 obtain ⟨rfl, wx⟩ := dT hx
 obtain ⟨rfl, wl⟩ := bh hl
 split at hs
 case isFalse => cases hs
 rename_i fx
 cases hs
 refine ⟨by simp [lf26], ?_⟩
 have v2 : h1 okAt [x.enc] = some (.bool x.ok) := h1_at wx
 have v3 := sRVal_at wx fx wl
 have wv := lp (lk := jc l) wx
 have hk : x.ok = true → decide (3 < x.k) = !j7 x.k := sum_ok
 unfold ol uS
 obtain ⟨v, hv'⟩ : ∃ v, v = kV (jc l) x.p := ⟨_, rfl⟩
 rw [← hv'] at v3 wv ⊢
 have v5 : rS [.int .i64 x.k, v.1.enc] = some (.bool (soF x.k (zW v.1))) := sSays_at wv
 obtain ⟨b1, hb1⟩ : ∃ b, b = j7 x.k := ⟨_, rfl⟩
 obtain ⟨b2, hb2⟩ : ∃ b, b = x.ok := ⟨_, rfl⟩
 obtain ⟨b4, hb4⟩ : ∃ b, b = soF x.k (zW v.1) := ⟨_, rfl⟩
 rw [← hb1] at hk ⊢
 rw [← hb2] at v2 hk ⊢
 rw [← hb4] at v5
 unfold zU at v3
 simp only [At.enc, Po.enc, Fr.enc] at v2 v3 v5 ⊢
 cases b2
 ·cases b1 <;> simp [lf26, v2, pW, mz]
 ·have hk' := hk rfl
  cases b1
  ·simp only [Bool.not_false] at hk'
   simp [lf26, v2, hk', pW, mz]
  ·simp only [Bool.not_true, Bool.and_self, if_true] at hk' ⊢
   rw [← hb4]
   by_cases e : v.2 = 0
   ·rw [e] at v3 ⊢
    simp [lf26, v2, v3, v5, hk', pW, mz]
   ·have eb : ((v.2 : Int) != 0) = true := by simp; omega
    simp [lf26, v2, v3, hk', e, eb, pW, mz]
end Go.Proofs.YtgbjjikaenlkmaaGreat

namespace Go.Proofs.YtgbjjikaenlkmaaGreat
open Go Go.Abs
def lf9_B0 : LCode := .block 0 (.loop (.seq (.region [Oa 64 (.bin .lss (Tm 63) (Tm 62))]) (.seq (.cond (Tm 64) (.skip) (.exit 0)) (.seq (.block 1 (.seq (.region [Om 65 63,Oa 66 (.iadr 1 (Tm 61) (Tm 63)),Oq 67 1 false 66,Om 12 65,Om 13 67]) (.seq (.region [Om 69 9,Om 70 13,Oa 71 (.mget true (.p (.int .i64 0)) (Tm 69) (Tm 70)),Om 68 71,Ox 72 68 0,Ox 73 68 1,Om 14 72,Om 15 73]) (.seq (.region [Om 75 9,Om 76 11,Om 77 12,Oa 78 (.iadr 1 (Tm 76) (Tm 77)),Oq 79 1 false 78,Oa 80 (.mget true (.p (.int .i64 0)) (Tm 75) (Tm 79)),Om 74 80,Ox 81 74 0,Ox 82 74 1,Om 16 81,Om 17 82]) (.seq (.region [Om 83 15,Oa 84 (.un .not (Tm 83)),Om 85 84,Oo 86 85 17,Od 87 85 (.un .not (Tm 86)),Ou 88 85 87,Om 89 88,Oo 90 89 14,Oo 91 89 16,Od 92 89 (.bin .neq (Tm 90) (Tm 91)),Ou 93 89 92,Om 94 93,Oo 95 94 14,Oo 96 94 13,Oo 97 94 11,Oo 98 94 12,Od 99 94 (.iadr 1 (Tm 97) (Tm 98)),Od 100 94 (.load 1 false (Tm 99)),Od 101 94 (.minmax3 false (Tm 95) (Tm 96) (Tm 100)),Od 102 94 (.bin .lss (Tm 101) (Kz 0)),Ou 103 94 102]) (.cond (Tm 103) (.seq (.region [Oa 6 (.mov (.cst (.tight []))),Oa 7 (.mov (.cst (.tight []))),Oa 8 (.mov (Kz 1))]) (.ret)) (.skip))))))) (.region [Oa 104 (.bin .add (Tm 63) (Kz 1)),Om 63 104])))))
def lf9_B1 : LCode := .block 2 (.loop (.seq (.region [Oa 109 (.bin .lss (Tm 108) (Tm 107))]) (.seq (.cond (Tm 109) (.skip) (.exit 2)) (.seq (.block 3 (.seq (.region [Om 110 108,Oa 111 (.iadr 1 (Tm 106) (Tm 108)),Oq 112 1 false 111,Om 19 110,Om 20 112]) (.seq (.seq (.region [Om 113 20,Oz 114 2 5,Oq 115 1 false 114,Om 116 19,Oa 117 (.iadr 1 (Tm 115) (Tm 116)),Oq 118 1 false 117,Oa 119 (.bin .eql (Tm 113) (Tm 118))]) (.cond (Tm 119) (.exit 3) (.skip))) (.seq (.regionN 1 [(Om 121 9,.f),(Om 122 20,.f),(Oa 123 (.mget false (.p (.int .i64 0)) (Tm 121) (Tm 122)),.s),(Om 124 20,.f),(Oz 125 2 5,.s),(Oq 126 1 false 125,.s),(Om 127 19,.f),(Oa 128 (.iadr 1 (Tm 126) (Tm 127)),.s),(Oq 129 1 false 128,.s),(Oa 130 (.call 21 [Tm 123,Tm 124,Tm 129]),.c 1),(Om 120 130,.f),(Ox 131 120 0,.f),(Ox 132 120 1,.f),(Oa 21 (.newv 7 78 (.cst Za)),.n 0),(Oy 7 21 131,.f),(Om 22 132,.f)]) (.seq (.seq (.region [Om 133 22,Oa 134 (.bin .neq (Tm 133) (Kz 0))]) (.cond (Tm 134) (.seq (.region [Om 135 22,Oa 6 (.mov (.cst (.tight []))),Oa 7 (.mov (.cst (.tight []))),Om 8 135]) (.ret)) (.skip))) (.region [Om 136 18,Oq 137 7 true 21,Oa 138 (.build Zl [(0,7,(Tm 137)),(7,1,Kt)]),Oa 139 (.buildSl 8 80 Zl 1 [(0,(Tm 138))]),Oa 140 (.app 8 112 80 (Tm 136) (Tm 139)),Om 18 140])))))) (.region [Oa 141 (.bin .add (Tm 108) (Kz 1)),Om 108 141])))))
def lf9 : LFunc := ⟨169,[.slot 6,.slot 7,.slot 8],.seq (.region [Oa 4 (.newv 3 26 (Tm 1)),Oa 5 (.newv 3 26 (Tm 2)),Oa 6 (.mov (.cst (.tight []))),Oa 7 (.mov (.cst (.tight []))),Oa 8 (.mov (Kz 0))]) (.seq (.region [Om 26 0,Oa 27 (.call 20 [Tm 26]),Om 9 27]) (.seq (.seq (.region [Oz 28 1 4,Oq 29 1 false 28,Oz 30 1 5,Oq 31 1 false 30,Oa 32 (.bin .neq (Tm 29) (Tm 31)),Om 33 32,Od 34 33 (.fadr 2 (Tm 4)),Od 35 33 (.load 1 false (Tm 34)),Od 36 33 (.len (Tm 35)),Od 37 33 (.fadr 2 (Tm 5)),Od 38 33 (.load 1 false (Tm 37)),Od 39 33 (.len (Tm 38)),Od 40 33 (.bin .neq (Tm 36) (Tm 39)),Ou 41 33 40,Om 42 41,Od 43 42 (.fadr 0 (Tm 4)),Od 44 42 (.load 1 false (Tm 43)),Od 45 42 (.fadr 0 (Tm 5)),Od 46 42 (.load 1 false (Tm 45)),Od 47 42 (.bin .eql (Tm 44) (Tm 46)),Ou 48 42 47]) (.cond (Tm 48) (.seq (.region [Oa 6 (.mov (.cst (.tight []))),Oa 7 (.mov (.cst (.tight []))),Oa 8 (.mov (Kz 1))]) (.ret)) (.skip))) (.seq (.regionN 2 [(Oz 49 0 4,.s),(Oq 50 1 false 49,.s),(Oa 51 (.buildSl 1 3 (.p (.int .i64 0)) 1 [(0,(Tm 50))]),.n 0),(Oz 52 2 4,.s),(Oq 53 1 false 52,.s),(Oa 54 (.app 1 8 3 (Tm 51) (Tm 53)),.a [1]),(Oz 55 0 5,.s),(Oq 56 1 false 55,.s),(Oa 57 (.buildSl 1 3 (.p (.int .i64 0)) 1 [(0,(Tm 56))]),.n 1),(Oz 58 2 5,.s),(Oq 59 1 false 58,.s),(Oa 60 (.app 1 8 3 (Tm 57) (Tm 59)),.f),(Om 10 54,.f),(Om 11 60,.f)]) (.seq (.seq (.region [Om 61 10,Oa 62 (.len (Tm 61)),Oa 63 (.mov (Kz 0))]) (lf9_B0)) (.seq (.region [Oa 18 (.mov (.cst (.tight [])))]) (.seq (.seq (.region [Oz 105 2 4,Oq 106 1 false 105,Oa 107 (.len (Tm 106)),Oa 108 (.mov (Kz 0))]) (lf9_B1)) (.seq (.region [Om 143 9,Oz 144 0 4,Oq 145 1 false 144,Oa 146 (.mget false (.p (.int .i64 0)) (Tm 143) (Tm 145)),Oz 147 0 4,Oq 148 1 false 147,Oz 149 0 5,Oq 150 1 false 149,Oa 151 (.call 22 [Tm 146,Tm 148,Tm 150]),Om 142 151,Ox 152 142 0,Ox 153 142 1,Ox 154 142 2,Om 23 152,Om 24 153,Om 25 154]) (.seq (.seq (.region [Om 155 25,Oa 156 (.bin .neq (Tm 155) (Kz 0))]) (.cond (Tm 156) (.seq (.region [Om 157 25,Oa 6 (.mov (.cst (.tight []))),Oa 7 (.mov (.cst (.tight
 []))),Om 8 157]) (.ret)) (.skip))) (.seq (.seq (.region [Om 158 24,Oa 159 (.len (Tm 158)),Oa 160 (.bin .gtr (Tm 159) (Kz 0))]) (.cond (Tm 160) (.region [Om 161 18,Oa 162 (.call 23 [Tm 161]),Om 163 24,Oa 164 (.app 8 112 80 (Tm 162) (Tm 163)),Om 24 164]) (.skip))) (.seq (.region [Om 165 18,Om 166 23,Oa 167 (.app 8 112 80 (Tm 165) (Tm 166)),Om 168 24,Om 6 167,Om 7 168,Oa 8 (.mov (Kz 0))]) (.ret)))))))))))⟩
theorem low9 : wZ Tryz.prog gl0 true 9 = some lf9 := lowN (by kernel_rfl)
def lf10_B0 : LCode := .block 2 (.loop (.seq (.seq (.region [Om 22 10,Om 23 0,Oa 24 (.len (Tm 23)),Oa 25 (.bin .lss (Tm 22) (Tm 24))]) (.cond (Tm 25) (.skip) (.exit 2))) (.seq (.block 3 (.seq (.regionD [Om 28 7,Oq 29 3 true 9,Om 30 0,Om 31 10,Oa 32 (.iadr 3 (Tm 30) (Tm 31)),Oq 33 3 true 32,Oa 34 (.call 25 [Tm 28,Tm 29,Tm 33])]) (.cond (Tm 34) (.seq (.region [Om 35 8,Om 36 10,Om 4 35,Om 5 36,Oa 6 (.mov Kt)]) (.ret)) (.skip)))) (.region [Om 26 10,Oa 27 (.bin .add (Tm 26) (Kz 1)),Om 10 27]))))
def lf10_B1 : LCode := .block 0 (.loop (.seq (.region [Oa 16 (.bin .lss (Tm 15) (Tm 14))]) (.seq (.cond (Tm 16) (.skip) (.exit 0)) (.seq (.block 1 (.seq (.region [Om 17 15,Oa 18 (.iadr 3 (Tm 13) (Tm 15)),Oq 19 3 true 18,Oa 9 (.newv 3 26 (.cst (.agg [.p (.int .i64 0),.p (.str []),.tight []]))),Om 8 17,Oy 3 9 19]) (.seq (.region [Om 20 8,Oa 21 (.bin .add (Tm 20) (Kz 1)),Om 10 21]) (lf10_B0)))) (.region [Oa 37 (.bin .add (Tm 15) (Kz 1)),Om 15 37])))))
def lf10 : LFunc := ⟨38,[.slot 4,.slot 5,.slot 6],.seq (.region [Oa 4 (.mov (Kz 0)),Oa 5 (.mov (Kz 0)),Oa 6 (.mov Kg)]) (.seq (.region [Om 11 1,Oa 12 (.call 24 [Tm 11]),Om 7 12]) (.seq (.seq (.region [Om 13 0,Oa 14 (.len (Tm 13)),Oa 15 (.mov (Kz 0))]) (lf10_B1)) (.seq (.region [Oa 4 (.mov (Kz 0)),Oa 5 (.mov (Kz 0)),Oa 6 (.mov Kg)]) (.ret))))⟩
theorem low10 : zf Tryz.prog gl0 10 = some lf10 := Go.Abs.lowF (by kernel_rfl)
def lf12_B0 : LCode := .block 0 (.loop (.seq (.region [Oa 36 (.bin .lss (Tm 35) (Tm 34))]) (.seq (.cond (Tm 36) (.skip) (.exit 0)) (.seq (.block 1 (.seq (.region [Oa 37 (.iadr 3 (Tm 33) (Tm 35)),Oq 38 3 true 37,Oa 15 (.newv 3 26 (.cst (.agg [.p (.int .i64 0),.p (.str []),.tight []]))),Oy 3 15 38]) (.seq (.region [Om 40 11,Oz 41 0 15,Oq 42 1 false 41,Oa 43 (.buildSl 1 3 (.p (.int .i64 0)) 1 [(0,(Tm 42))]),Oz 44 2 15,Oq 45 1 false 44,Oa 46 (.app 1 8 3 (Tm 43) (Tm 45)),Oa 47 (.call 27 [Tm 40,Tm 46]),Om 39 47,Ox 48 39 0,Ox 49 39 1,Om 16 48,Om 17 49]) (.seq (.seq (.region [Om 50 17,Oa 51 (.un .not (Tm 50))]) (.cond (Tm 51) (.seq (.region [Oa 6 (.mov (.cst (.tight []))),Oa 7 (.mov (Kz 1))]) (.ret)) (.skip))) (.seq (.region [Om 52 13,Oa 53 (.mkf 29 [Tm 15]),Oa 54 (.call 28 [Tm 52,Tm 53]),Om 18 54]) (.seq (.seq (.region [Om 55 18,Oa 56 (.bin .lss (Tm 55) (Kz 0))]) (.cond (Tm 56) (.seq (.region [Om 57 13,Oa 58 (.len (Tm 57)),Om 18 58]) (.regionW [(Om 59 13,.f),(Oz 60 1 15,.s),(Oq 61 1 false 60,.s),(Om 62 12,.f),(Oz 63 0 15,.f),(Oq 64 1 false 63,.f),(Oa 65 (.mget false (.p (.int .i64 0)) (Tm 62) (Tm 64)),.f),(Oa 66 (.minmax true (Tm 65) (Kz 0)),.f),(Oa 67 (.call 30 [Tm 66]),.s),(Oa 68 (.build (.agg [.p (.str []),.tight [],.p (.int .i64 0),.p (.bool false),.p (.bool false),.tight [],.tight [],.p (.int .i64 0)]) [(0,1,(Tm 61)),(2,6,(Tm 67))]),.f),(Oa 69 (.buildSl 8 54 (.agg [.p (.str []),.tight [],.p (.int .i64 0),.p (.bool false),.p (.bool false),.tight [],.tight [],.p (.int .i64 0)]) 1 [(0,(Tm 68))]),.f),(Oa 70 (.app 8 120 54 (Tm 59) (Tm 69)),.f),(Om 13 70,.f)])) (.skip))) (.seq (.regionD [Om 71 13,Om 72 18,Oa 73 (.iadr 8 (Tm 71) (Tm 72)),Oq 74 8 true 73,Om 75 16,Oa 76 (.slSl 6 (Tm 75) (some (Kz 1)) none none),Oa 77 (.call 31 [Tm 74,Tm 76]),Oa 78 (.bin .lss (Tm 77) (Kz 0))]) (.cond (Tm 78) (.regionW [(Om 79 13,.f),(Om 80 18,.f),(Om 81 13,.f),(Om 82 18,.f),(Oa 83 (.iadr 8 (Tm 81) (Tm 82)),.s),(Oz 84 1 83,.s),(Oq 85 1 false 84,.s),(Om 86 16,.f),(Oa 87 (.slSl 6 (Tm 86) (some (Kz 1)) none none),.f),(Om
 88 16,.f),(Oa 89 (.iadr 6 (Tm 88) (Kz 0)),.f),(Oq 90 6 true 89,.f),(Oa 91 (.build (.agg [.tight [],.p (.int .i64 0),.p (.bool false),.p (.bool false),.tight [],.tight [],.p (.int .i64 0)]) [(0,1,(Tm 87)),(1,6,(Tm 90))]),.f),(Oa 92 (.buildSl 7 58 (.agg [.tight [],.p (.int .i64 0),.p (.bool false),.p (.bool false),.tight [],.tight [],.p (.int .i64 0)]) 1 [(0,(Tm 91))]),.s),(Oa 93 (.app 7 104 58 (Tm 85) (Tm 92)),.f),(Oa 94 (.iadr 8 (Tm 79) (Tm 80)),.f),(Oz 95 1 94,.f),(Oy 1 95 93,.f)]) (.skip))))))))) (.region [Oa 96 (.bin .add (Tm 35) (Kz 1)),Om 35 96])))))
def lf12_B1 : LCode := .block 2 (.loop (.seq (.region [Oa 102 (.bin .lss (Tm 101) (Tm 100))]) (.seq (.cond (Tm 102) (.skip) (.exit 2)) (.seq (.block 3 (.seq (.region [Om 103 101,Oa 104 (.iadr 8 (Tm 99) (Tm 101)),Oq 105 8 true 104,Oa 20 (.newv 8 54 (.cst (.agg [.p (.str []),.tight [],.p (.int .i64 0),.p (.bool false),.p (.bool false),.tight [],.tight [],.p (.int .i64 0)]))),Om 19 103,Oy 8 20 105]) (.region [Om 106 13,Om 107 19,Oq 108 8 true 20,Oa 109 (.call 35 [Tm 108]),Oa 110 (.iadr 8 (Tm 106) (Tm 107)),Oy 8 110 109]))) (.region [Oa 111 (.bin .add (Tm 101) (Kz 1)),Om 101 111])))))
def lf12 : LFunc := ⟨113,[.slot 6,.slot 7],.seq (.region [Oa 6 (.mov (.cst (.tight []))),Oa 7 (.mov (Kz 0))]) (.seq (.seq (.region [Om 22 0,Om 23 2,Oa 24 (.call 10 [Tm 22,Tm 23]),Om 21 24,Ox 25 21 0,Ox 26 21 1,Ox 27 21 2,Om 8 25,Om 9 26,Om 10 27]) (.seq (.region [Om 28 10]) (.cond (Tm 28) (.seq (.region [Oa 6 (.mov (.cst (.tight []))),Oa 7 (.mov (Kz 1))]) (.ret)) (.skip)))) (.seq (.region [Om 29 2,Oa 30 (.call 24 [Tm 29]),Om 31 1,Oa 32 (.call 20 [Tm 31]),Om 11 30,Om 12 32]) (.seq (.region [Oa 13 (.mov (.cst (.tight [])))]) (.seq (.seq (.region [Om 33 0,Oa 34 (.len (Tm 33)),Oa 35 (.mov (Kz 0))]) (lf12_B0)) (.seq (.region [Om 97 13,Oa 98 (.call 32 [Tm 97,.cst (.p (.clo 33 []))])]) (.seq (.seq (.region [Om 99 13,Oa 100 (.len (Tm 99)),Oa 101 (.mov (Kz 0))]) (lf12_B1)) (.seq (.region [Om 112 13,Om 6 112,Oa 7 (.mov (Kz 0))]) (.ret))))))))⟩
theorem low12 : zf Tryz.prog gl0 12 = some lf12 := Go.Abs.lowF (by kernel_rfl)
def lf17_B0 : LCode := .block 4 (.loop (.seq (.region [Oa 45 (.bin .lss (Tm 44) (Tm 43))]) (.seq (.cond (Tm 45) (.skip) (.exit 4)) (.seq (.block 5 (.seq (.region [Oa 46 (.iadr 2 (Tm 42) (Tm 44)),Oq 47 2 true 46,Oa 13 (.newv 2 67 (.cst (.p (.agg [.int .i64 0,.int .i64 0])))),Oy 2 13 47]) (.seq (.region [Om 49 8,Oa 50 (.iaadr 2 1 (Tm 13) (Kz 0)),Oq 51 1 false 50,Oa 52 (.mget true (.p (.int .i64 0)) (Tm 49) (Tm 51)),Om 48 52,Ox 53 48 0,Ox 54 48 1,Om 14 53,Om 15 54]) (.seq (.region [Om 56 8,Oa 57 (.iaadr 2 1 (Tm 13) (Kz 1)),Oq 58 1 false 57,Oa 59 (.mget true (.p (.int .i64 0)) (Tm 56) (Tm 58)),Om 55 59,Ox 60 55 0,Ox 61 55 1,Om 16 60,Om 17 61]) (.seq (.region [Om 62 15,Om 63 62,Oj 64 63 17,Oc 65 63 (.un .not (Tm 64)),Oj 66 63 65,Oo 67 66 16,Oo 68 66 14,Od 69 66 (.bin .add (Tm 68) (Kz 1)),Od 70 66 (.bin .gtr (Tm 67) (Tm 69)),Oc 71 63 (.pick (Tm 66) Kt (Tm 70)),Ot 72 63 71]) (.cond (Tm 72) (.seq (.region [Om 73 8,Oa 74 (.iaadr 2 1 (Tm 13) (Kz 1)),Oq 75 1 false 74,Om 76 14,Oa 77 (.bin .add (Tm 76) (Kz 1)),Ob (.mset (Tm 73) (Tm 75) (Tm 77))]) (.region [Oa 9 (.mov Kt)])) (.skip))))))) (.region [Oa 78 (.bin .add (Tm 44) (Kz 1)),Om 44 78])))))
def lf17_B1 : LCode := .block 2 (.loop (.seq (.region [Oa 33 (.bin .lss (Tm 32) (Tm 31))]) (.seq (.cond (Tm 33) (.skip) (.exit 2)) (.seq (.block 3 (.seq (.region [Oa 34 (.iadr 2 (Tm 30) (Tm 32)),Oq 35 2 true 34,Oa 11 (.newv 2 67 (.cst (.p (.agg [.int .i64 0,.int .i64 0])))),Oy 2 11 35]) (.seq (.region [Oq 36 2 true 11,Oa 37 (.iaadr 2 1 (Tm 11) (Kz 1)),Oq 38 1 false 37,Oa 39 (.iaadr 2 1 (Tm 11) (Kz 0)),Oq 40 1 false 39,Oa 41 (.build (.p (.agg [.int .i64 0,.int .i64 0])) [(0,1,(Tm 38)),(1,1,(Tm 40))]),Oa 42 (.buildSl 2 67 (.p (.agg [.int .i64 0,.int .i64 0])) 2 [(0,(Tm 36)),(1,(Tm 41))]),Oa 43 (.len (Tm 42)),Oa 44 (.mov (Kz 0))]) (lf17_B0)))) (.region [Oa 79 (.bin .add (Tm 32) (Kz 1)),Om 32 79])))))
def lf17_B2 : LCode := .block 0 (.loop (.seq (.seq (.region [Om 29 9]) (.cond (Tm 29) (.skip) (.exit 0))) (.block 1 (.seq (.region [Oa 9 (.mov Kg)]) (.seq (.region [Om 30 0,Oa 31 (.len (Tm 30)),Oa 32 (.mov (Kz 0))]) (lf17_B1))))))
def lf17_B3 : LCode := .block 8 (.loop (.seq (.region [Oa 94 (.bin .lss (Tm 93) (Tm 92))]) (.seq (.cond (Tm 94) (.skip) (.exit 8)) (.seq (.block 9 (.seq (.region [Oa 95 (.iadr 2 (Tm 91) (Tm 93)),Oq 96 2 true 95,Oa 22 (.newv 2 67 (.cst (.p (.agg [.int .i64 0,.int .i64 0])))),Oy 2 22 96]) (.seq (.region [Oa 97 (.iaadr 2 1 (Tm 22) (Kz 1)),Oq 98 1 false 97,Om 23 98]) (.seq (.seq (.region [Oa 99 (.iaadr 2 1 (Tm 22) (Kz 0)),Oq 100 1 false 99,Om 101 1,Oa 102 (.bin .neq (Tm 100) (Tm 101))]) (.cond (Tm 102) (.region [Oa 103 (.iaadr 2 1 (Tm 22) (Kz 0)),Oq 104 1 false 103,Om 23 104]) (.skip))) (.seq (.region [Om 106 8,Om 107 23,Oa 108 (.mget true (.p (.int .i64 0)) (Tm 106) (Tm 107)),Om 105 108,Ox 109 105 0,Ox 110 105 1,Om 24 109,Om 25 110]) (.seq (.region [Oa 111 (.iaadr 2 1 (Tm 22) (Kz 0)),Oq 112 1 false 111,Om 113 1,Oa 114 (.bin .eql (Tm 112) (Tm 113)),Om 115 114,Od 116 115 (.iaadr 2 1 (Tm 22) (Kz 1)),Od 117 115 (.load 1 false (Tm 116)),Oo 118 115 1,Od 119 115 (.bin .eql (Tm 117) (Tm 118)),Ou 120 115 119,Om 121 120,Oj 122 121 25,Ot 123 121 122,Om 124 123,Oj 125 124 24,Oj 126 124 8,Oj 127 124 1,Oc 128 124 (.mget false (.p (.int .i64 0)) (Tm 126) (Tm 127)),Oc 129 124 (.bin .sub (Tm 128) (Kz 1)),Oc 130 124 (.bin .eql (Tm 125) (Tm 129)),Ot 131 124 130]) (.cond (Tm 131) (.seq (.region [Om 132 20,Oq 133 2 true 22,Oa 134 (.buildSl 2 67 (.p (.agg [.int .i64 0,.int .i64 0])) 1 [(0,(Tm 133))]),Oa 135 (.app 2 16 67 (Tm 132) (Tm 134)),Om 20 135]) (.seq (.region [Om 136 23,Om 1 136]) (.exit 8))) (.skip)))))))) (.region [Oa 137 (.bin .add (Tm 93) (Kz 1)),Om 93 137])))))
def lf17_B4 : LCode := .block 6 (.loop (.seq (.seq (.region [Om 88 1,Om 89 2,Oa 90 (.bin .neq (Tm 88) (Tm 89))]) (.cond (Tm 90) (.skip) (.exit 6))) (.block 7 (.seq (.region [Om 91 0,Oa 92 (.len (Tm 91)),Oa 93 (.mov (Kz 0))]) (lf17_B3)))))
def lf17 : LFunc := ⟨139,[.slot 6,.slot 7],.seq (.region [Oa 6 (.mov (.cst (.tight []))),Oa 7 (.mov (Kz 0))]) (.seq (.region [Oa 26 .mkm,Om 27 2,Ob (.mset (Tm 26) (Tm 27) (Kz 0)),Om 28 26,Om 8 28]) (.seq (.seq (.region [Oa 9 (.mov Kt)]) (lf17_B2)) (.seq (.seq (.region [Om 81 8,Om 82 1,Oa 83 (.mget true (.p (.int .i64 0)) (Tm 81) (Tm 82)),Om 80 83,Ox 84 80 0,Ox 85 80 1,Om 18 84,Om 19 85]) (.seq (.region [Om 86 19,Oa 87 (.un .not (Tm 86))]) (.cond (Tm 87) (.seq (.region [Oa 6 (.mov (.cst (.tight []))),Oa 7 (.mov (Kz 5))]) (.ret)) (.skip)))) (.seq (.region [Oa 20 (.mov (.cst (.tight [])))]) (.seq (lf17_B4) (.seq (.region [Om 138 20,Om 6 138,Oa 7 (.mov (Kz 0))]) (.ret)))))))⟩
theorem low17 : zf Tryz.prog gl0 17 = some lf17 := Go.Abs.lowF (by kernel_rfl)
def lf18_B0 : LCode := .block 0 (.loop (.seq (.region [Oa 13 (.bin .lss (Tm 12) (Tm 11))]) (.seq (.cond (Tm 13) (.skip) (.exit 0)) (.seq (.block 1 (.seq (.region [Oa 14 (.iadr 6 (Tm 10) (Tm 12)),Oq 15 6 true 14,Oa 7 (.newv 6 35 (.cst (.agg [.p (.int .i64 0),.p (.bool false),.p (.bool false),.tight [],.tight [],.p (.int .i64 0)]))),Oy 6 7 15]) (.seq (.region [Oz 16 0 7,Oq 17 1 false 16,Om 18 0,Oa 19 (.bin .eql (Tm 17) (Tm 18))]) (.cond (Tm 19) (.region [Om 20 5,Oz 21 5 7,Oq 22 1 false 21,Ob (.mset (Tm 20) (Tm 22) Kt)]) (.skip))))) (.region [Oa 23 (.bin .add (Tm 12) (Kz 1)),Om 12 23])))))
def lf18_B1 : LCode := .block 2 (.loop (.seq (.seq (.region [Om 26 5,Oz 27 5 8,Oq 28 1 false 27,Oa 29 (.mget false (.p (.bool false)) (Tm 26) (Tm 28))]) (.cond (Tm 29) (.skip) (.exit 2))) (.block 3 (.region [Oz 30 5 8,Oq 31 1 false 30,Oa 32 (.bin .add (Tm 31) (Kz 1)),Oz 33 5 8,Oy 1 33 32]))))
def lf18 : LFunc := ⟨35,[.cell 4 6 true],.seq (.region [Oa 4 (.newv 6 35 (.cst (.agg [.p (.int .i64 0),.p (.bool false),.p (.bool false),.tight [],.tight [],.p (.int .i64 0)])))]) (.seq (.region [Oa 9 .mkm,Om 5 9]) (.seq (.seq (.region [Om 10 1,Oa 11 (.len (Tm 10)),Oa 12 (.mov (Kz 0))]) (lf18_B0)) (.seq (.region [Om 24 0,Oa 25 (.build (.agg [.p (.int .i64 0),.p (.bool false),.p (.bool false),.tight [],.tight [],.p (.int .i64 0)]) [(0,1,(Tm 24))]),Oa 8 (.newv 6 35 (.cst (.agg [.p (.int .i64 0),.p (.bool false),.p (.bool false),.tight [],.tight [],.p (.int .i64 0)]))),Oy 6 8 25]) (.seq (lf18_B1) (.seq (.region [Oq 34 6 true 8,Oy 6 4 34]) (.ret))))))⟩
theorem low18 : zf Tryz.prog gl0 18 = some lf18 := Go.Abs.lowF (by kernel_rfl)
def lf20 : LFunc := ⟨17,[.slot 2],.seq (.region [Oa 2 (.mov (.cst .nilm))]) (.seq (.region [Oa 6 .mkm,Oa 3 (.newv 1 81 (.cst .nilm)),Oy 1 3 6]) (.seq (.seq (.region [Om 7 0,Oa 8 (.call 39 [Tm 7])]) (.block 0 (.bad))) (.seq (.region [Oq 16 1 false 3,Om 2 16]) (.ret))))⟩
theorem low20 : zf Tryz.prog gl0 20 = some lf20 := Go.Abs.lowF (by kernel_rfl)
def lf21 : LFunc := ⟨47,[.cell 6 7 true,.slot 7],.seq (.region [Oa 6 (.newv 7 78 (.cst Za)),Oa 7 (.mov (Kz 0))]) (.seq (.seq (.region [Om 10 0,Oa 11 (.bin .neq (Tm 10) (Kz 1))]) (.cond (Tm 11) (.seq (.region [Om 12 1,Om 13 2,Oa 14 (.call 40 [Tm 12,Tm 13]),Ox 15 14 0,Ox 16 14 1,Oy 7 6 15,Om 7 16]) (.ret)) (.skip))) (.seq (.region [Om 18 2,Oa 19 (.call 42 [Tm 18]),Oa 20 (.call 43 [.cst (.p (.int .i64 (-1))),.cst (.p (.int .i64 1))]),Oa 21 (.call 41 [Tm 19,Tm 20]),Om 17 21,Ox 22 17 0,Ox 23 17 1,Oa 8 (.newv 4 76 (.cst Zp)),Oy 4 8 22,Om 7 23]) (.seq (.seq (.region [Om 24 7,Oa 25 (.bin .neq (Tm 24) (Kz 0))]) (.cond (Tm 25) (.seq (.region [Oq 26 7 true 6,Om 27 7,Oy 7 6 26,Om 7 27]) (.ret)) (.skip))) (.seq (.regionW [(Om 29 1,.f),(Oa 30 (.call 42 [Tm 29]),.t),(Oq 31 4 true 8,.s),(Oa 32 (.call 44 [Tm 30,Tm 31]),.t),(Om 28 32,.f),(Ox 33 28 0,.f),(Ox 34 28 1,.f),(Oa 9 (.newv 4 76 (.cst Zp)),.s),(Oy 4 9 33,.f),(Om 7 34,.f)]) (.seq (.seq (.region [Om 35 7,Oa 36 (.bin .neq (Tm 35) (Kz 0))]) (.cond (Tm 36) (.seq (.region [Oq 37 7 true 6,Om 38 7,Oy 7 6 37,Om 7 38]) (.ret)) (.skip))) (.seq (.region [Oq 40 4 true 9,Oa 41 (.call 45 [.cst (.p (.int .i64 3)),Tm 40]),Om 39 41,Ox 42 39 0,Ox 43 39 1,Ox 44 39 2,Oy 7 6 42,Om 7 44]) (.seq (.region [Oq 45 7 true 6,Om 46 7,Oy 7 6 45,Om 7 46]) (.ret))))))))⟩
theorem low21 : zf Tryz.prog gl0 21 = some lf21 := Go.Abs.lowF (by kernel_rfl)
def lf22 : LFunc := ⟨50,[.slot 6,.slot 7,.slot 8],.seq (.region [Oa 6 (.mov (.cst (.tight []))),Oa 7 (.mov (.cst (.tight []))),Oa 8 (.mov (Kz 0))]) (.seq (.seq (.region [Om 13 0,Oa 14 (.bin .neq (Tm 13) (Kz 0))]) (.cond (Tm 14) (.seq (.region [Om 16 0,Om 17 1,Om 18 2,Oa 19 (.call 21 [Tm 16,Tm 17,Tm 18]),Om 15 19,Ox 20 15 0,Ox 21 15 1,Oa 9 (.newv 7 78 (.cst Za)),Oy 7 9 20,Om 10 21]) (.seq (.region [Oq 22 7 true 9,Oa 23 (.build Zl [(0,7,(Tm 22))]),Oa 24 (.buildSl 8 80 Zl 1 [(0,(Tm 23))]),Om 25 10,Om 6 24,Oa 7 (.mov (.cst (.tight []))),Om 8 25]) (.ret))) (.skip))) (.seq (.region [Om 27 1,Oa 28 (.call 46 [Tm 27]),Om 26 28,Ox 29 26 0,Ox 30 26 1,Oa 11 (.newv 7 78 (.cst Za)),Oy 7 11 29,Om 8 30]) (.seq (.seq (.region [Om 31 8,Oa 32 (.bin .neq (Tm 31) (Kz 0))]) (.cond (Tm 32) (.seq (.region [Om 33 8,Oa 6 (.mov (.cst (.tight []))),Oa 7 (.mov (.cst (.tight []))),Om 8 33]) (.ret)) (.skip))) (.seq (.region [Om 35 2,Oa 36 (.call 46 [Tm 35]),Om 34 36,Ox 37 34 0,Ox 38 34 1,Oa 12 (.newv 7 78 (.cst Za)),Oy 7 12 37,Om 8 38]) (.seq (.regionN 2 [(Oq 39 7 true 11,.s),(Oa 40 (.build Zl [(0,7,(Tm 39))]),.f),(Oq 41 7 true 12,.s),(Oa 42 (.build Zl [(0,7,(Tm 41)),(7,1,Kt)]),.f),(Oa 43 (.buildSl 8 80 Zl 2 [(0,(Tm 40)),(1,(Tm 42))]),.n 0),(Oq 44 7 true 11,.s),(Oa 45 (.build Zl [(0,7,(Tm 44)),(7,1,Kt)]),.f),(Oq 46 7 true 12,.s),(Oa 47 (.build Zl [(0,7,(Tm 46))]),.f),(Oa 48 (.buildSl 8 80 Zl 2 [(0,(Tm 45)),(1,(Tm 47))]),.n 1),(Om 49 8,.f),(Om 6 43,.f),(Om 7 48,.f),(Om 8 49,.f)]) (.ret))))))⟩
theorem low22 : wZ Tryz.prog gl0 true 22 = some lf22 := lowN (by kernel_rfl)
def lf23 : LFunc := ⟨8,[.slot 2],.seq (.region [Oa 2 (.mov (.cst (.tight [])))]) (.seq (.seq (.region [Om 3 0,Oa 4 (.eqS false (Tm 3) (.cst (.tight [])))]) (.cond (Tm 4) (.seq (.region [Oa 2 (.mov (.cst (.tight [])))]) (.ret)) (.skip))) (.seq (.region [Oa 5 (.buildSl 8 80 Zl 0 []),Om 6 0,Oa 7 (.app 8 112 80 (Tm 5) (Tm 6)),Om 2 7]) (.ret)))⟩
theorem low23 : zf Tryz.prog gl0 23 = some lf23 := Go.Abs.lowF (by kernel_rfl)
def lf24 : LFunc := ⟨17,[.slot 2],.seq (.region [Oa 2 (.mov (.cst .nilm))]) (.seq (.region [Oa 6 .mkm,Oa 3 (.newv 1 88 (.cst .nilm)),Oy 1 3 6]) (.seq (.seq (.region [Om 7 0,Oa 8 (.call 47 [Tm 7])]) (.block 0 (.bad))) (.seq (.region [Oq 16 1 false 3,Om 2 16]) (.ret))))⟩
theorem low24 : zf Tryz.prog gl0 24 = some lf24 := Go.Abs.lowF (by kernel_rfl)
def lf25 : LFunc := ⟨68,[.slot 6],.seq (.region [Oa 4 (.newv 3 26 (Tm 1)),Oa 5 (.newv 3 26 (Tm 2)),Oa 6 (.mov Kg)]) (.seq (.seq (.region [Oz 11 1 4,Oq 12 1 false 11,Oz 13 1 5,Oq 14 1 false 13,Oa 15 (.bin .neq (Tm 12) (Tm 14)),Om 16 15,Od 17 16 (.fadr 2 (Tm 4)),Od 18 16 (.load 1 false (Tm 17)),Od 19 16 (.len (Tm 18)),Od 20 16 (.fadr 2 (Tm 5)),Od 21 16 (.load 1 false (Tm 20)),Od 22 16 (.len (Tm 21)),Od 23 16 (.bin .neq (Tm 19) (Tm 22)),Ou 24 16 23]) (.cond (Tm 24) (.seq (.region [Oa 6 (.mov Kg)]) (.ret)) (.skip))) (.seq (.region [Om 26 0,Oz 27 0 4,Oq 28 1 false 27,Oa 29 (.buildSl 1 3 (.p (.int .i64 0)) 1 [(0,(Tm 28))]),Oz 30 2 4,Oq 31 1 false 30,Oa 32 (.app 1 8 3 (Tm 29) (Tm 31)),Oa 33 (.call 27 [Tm 26,Tm 32]),Om 25 33,Ox 34 25 0,Ox 35 25 1,Om 7 34,Om 8 35]) (.seq (.region [Om 37 0,Oz 38 0 5,Oq 39 1 false 38,Oa 40 (.buildSl 1 3 (.p (.int .i64 0)) 1 [(0,(Tm 39))]),Oz 41 2 5,Oq 42 1 false 41,Oa 43 (.app 1 8 3 (Tm 40) (Tm 42)),Oa 44 (.call 27 [Tm 37,Tm 43]),Om 36 44,Ox 45 36 0,Ox 46 36 1,Om 9 45,Om 10 46]) (.seq (.regionD [Om 47 8,Om 48 47,Oj 49 48 10,Ot 50 48 49,Om 51 50,Oj 52 51 7,Oc 53 51 (.slSl 6 (Tm 52) (some (Kz 1)) none none),Oj 54 51 9,Oc 55 51 (.slSl 6 (Tm 54) (some (Kz 1)) none none),Oc 56 51 (.call 48 [Tm 53,Tm 55,.cst (.p (.clo 49 []))]),Ot 57 51 56,Om 58 57,Oj 59 58 7,Oc 60 58 (.iadr 6 (Tm 59) (Kz 0)),Oc 61 58 (.load 6 true (Tm 60)),Oj 62 58 9,Oc 63 58 (.iadr 6 (Tm 62) (Kz 0)),Oc 64 58 (.load 6 true (Tm 63)),Oc 65 58 (.call 49 [Tm 61,Tm 64]),Oc 66 58 (.un .not (Tm 65)),Ot 67 58 66,Om 6 67]) (.ret)))))⟩
theorem low25 : zf Tryz.prog gl0 25 = some lf25 := Go.Abs.lowF (by kernel_rfl)
def lf27_B0 : LCode := .block 0 (.loop (.seq (.region [Oa 13 (.bin .lss (Tm 12) (Tm 11))]) (.seq (.cond (Tm 13) (.skip) (.exit 0)) (.seq (.block 1 (.seq (.region [Oa 14 (.iadr 1 (Tm 10) (Tm 12)),Oq 15 1 false 14,Om 7 15]) (.seq (.region [Om 17 0,Om 18 7,Oa 19 (.mget true (.agg [.p (.int .i64 0),.p (.bool false),.p (.bool false),.tight [],.tight [],.p (.int .i64 0)]) (Tm 17) (Tm 18)),Om 16 19,Ox 20 16 0,Ox 21 16 1,Oa 8 (.newv 6 35 (.cst (.agg [.p (.int .i64 0),.p (.bool false),.p (.bool false),.tight [],.tight [],.p (.int .i64 0)]))),Oy 6 8 20,Om 9 21]) (.seq (.seq (.region [Om 22 9,Oa 23 (.un .not (Tm 22))]) (.cond (Tm 23) (.seq (.region [Oa 4 (.mov (.cst (.tight []))),Oa 5 (.mov Kg)]) (.ret)) (.skip))) (.region [Om 24 4,Oq 25 6 true 8,Oa 26 (.buildSl 6 35 (.agg [.p (.int .i64 0),.p (.bool false),.p (.bool false),.tight [],.tight [],.p (.int .i64 0)]) 1 [(0,(Tm 25))]),Oa 27 (.app 6 80 35 (Tm 24) (Tm 26)),Om 4 27]))))) (.region [Oa 28 (.bin .add (Tm 12) (Kz 1)),Om 12 28])))))
def lf27 : LFunc := ⟨30,[.slot 4,.slot 5],.seq (.region [Oa 4 (.mov (.cst (.tight []))),Oa 5 (.mov Kg)]) (.seq (.seq (.region [Om 10 1,Oa 11 (.len (Tm 10)),Oa 12 (.mov (Kz 0))]) (lf27_B0)) (.seq (.region [Om 29 4,Om 4 29,Oa 5 (.mov Kt)]) (.ret)))⟩
theorem low27 : zf Tryz.prog gl0 27 = some lf27 := Go.Abs.lowF (by kernel_rfl)
def lf28_B0 : LCode := .block 0 (.loop (.seq (.region [Oa 9 (.bin .lss (Tm 8) (Tm 7))]) (.seq (.cond (Tm 9) (.skip) (.exit 0)) (.seq (.block 1 (.seq (.region [Om 10 8,Om 5 10]) (.seq (.region [Om 11 1,Om 12 0,Om 13 5,Oa 14 (.iadr 8 (Tm 12) (Tm 13)),Oq 15 8 true 14,Oa 16 (.callv (Tm 11) [Tm 15])]) (.cond (Tm 16) (.seq (.region [Om 17 5,Om 4 17]) (.ret)) (.skip))))) (.region [Oa 18 (.bin .add (Tm 8) (Kz 1)),Om 8 18])))))
def lf28 : LFunc := ⟨19,[.slot 4],.seq (.region [Oa 4 (.mov (Kz 0))]) (.seq (.seq (.region [Om 6 0,Oa 7 (.len (Tm 6)),Oa 8 (.mov (Kz 0))]) (lf28_B0)) (.seq (.region [Oa 4 (.mov (Kz (-1)))]) (.ret)))⟩
theorem low28 : zf Tryz.prog gl0 28 = some lf28 := Go.Abs.lowF (by kernel_rfl)
def lf29 : LFunc := ⟨9,[.slot 3],.seq (.region [Oa 2 (.newv 8 54 (Tm 0)),Oa 3 (.mov Kg)]) (.seq (.region [Oz 4 0 2,Oq 5 1 false 4,Oz 6 1 1,Oq 7 1 false 6,Oa 8 (.bin .eql (Tm 5) (Tm 7)),Om 3 8]) (.ret))⟩
theorem low29 : zf Tryz.prog gl0 29 = some lf29 := Go.Abs.lowF (by kernel_rfl)
def lf30 : LFunc := ⟨11,[.cell 2 6 true],.seq (.region [Oa 2 (.newv 6 35 (.cst (.agg [.p (.int .i64 0),.p (.bool false),.p (.bool false),.tight [],.tight [],.p (.int .i64 0)])))]) (.seq (.region [Om 4 0,Oa 5 (.build (.agg [.p (.int .i64 0),.p (.bool false),.p (.bool false),.tight [],.tight [],.p (.int .i64 0)]) [(0,1,(Tm 4))]),Oa 3 (.newv 6 35 (.cst (.agg [.p (.int .i64 0),.p (.bool false),.p (.bool false),.tight [],.tight [],.p (.int .i64 0)]))),Oy 6 3 5]) (.seq (.seq (.region [Om 6 0,Oa 7 (.bin .eql (Tm 6) (Kz 1))]) (.cond (Tm 7) (.region [Oa 8 (.call 53 []),Oz 9 2 3,Oy 3 9 8]) (.skip))) (.seq (.region [Oq 10 6 true 3,Oy 6 2 10]) (.ret))))⟩
theorem low30 : zf Tryz.prog gl0 30 = some lf30 := Go.Abs.lowF (by kernel_rfl)
def lf31 : LFunc := ⟨9,[.slot 4],.seq (.region [Oa 2 (.newv 8 54 (Tm 0)),Oa 3 (.newv 1 56 (Tm 1)),Oa 4 (.mov (Kz 0))]) (.seq (.region [Oz 5 1 2,Oq 6 1 false 5,Oa 7 (.mkf 55 [Tm 3]),Oa 8 (.call 54 [Tm 6,Tm 7]),Om 4 8]) (.ret))⟩
theorem low31 : zf Tryz.prog gl0 31 = some lf31 := Go.Abs.lowF (by kernel_rfl)
def lf32 : LFunc := ⟨14,[],.seq (.region [Om 5 0,Oa 6 (.len (Tm 5)),Om 4 6]) (.region [Om 7 0,Om 8 4,Om 9 4,Oa 10 (.conv (.toInt .u64) (Tm 9)),Oa 11 (.call 57 [Tm 10]),Om 12 1,Oa 13 (.call 56 [Tm 7,.cst (.p (.int .i64 0)),Tm 8,Tm 11,Tm 12])])⟩
theorem low32 : zf Tryz.prog gl0 32 = some lf32 := Go.Abs.lowF (by kernel_rfl)
def lf33 : LFunc := ⟨10,[.slot 4],.seq (.region [Oa 2 (.newv 8 54 (Tm 0)),Oa 3 (.newv 8 54 (Tm 1)),Oa 4 (.mov (Kz 0))]) (.seq (.region [Oz 5 0 2,Oq 6 1 false 5,Oz 7 0 3,Oq 8 1 false 7,Oa 9 (.call 34 [Tm 6,Tm 8]),Om 4 9]) (.ret))⟩
theorem low33 : zf Tryz.prog gl0 33 = some lf33 := Go.Abs.lowF (by kernel_rfl)
def lf34 : LFunc := ⟨20,[.slot 4],.seq (.region [Oa 4 (.mov (Kz 0))]) (.seq (.region [Om 7 0,Oa 8 (.call 58 [Tm 7]),Om 5 8]) (.seq (.region [Om 9 1,Oa 10 (.call 58 [Tm 9]),Om 6 10]) (.seq (.seq (.region [Om 11 5]) (.cond (Tm 11) (.seq (.seq (.region [Om 12 6]) (.cond (Tm 12) (.seq (.region [Oa 4 (.mov (Kz 0))]) (.ret)) (.skip))) (.seq (.region [Oa 4 (.mov (Kz (-1)))]) (.ret))) (.skip))) (.seq (.seq (.region [Om 13 6]) (.cond (Tm 13) (.seq (.region [Oa 4 (.mov (Kz 1))]) (.ret)) (.skip))) (.seq (.seq (.region [Om 14 0,Om 15 1,Oa 16 (.bin .lss (Tm 14) (Tm 15))]) (.cond (Tm 16) (.seq (.region [Oa 4 (.mov (Kz (-1)))]) (.ret)) (.skip))) (.seq (.seq (.region [Om 17 0,Om 18 1,Oa 19 (.bin .gtr (Tm 17) (Tm 18))]) (.cond (Tm 19) (.seq (.region [Oa 4 (.mov (Kz 1))]) (.ret)) (.skip))) (.seq (.region [Oa 4 (.mov (Kz 0))]) (.ret))))))))⟩
theorem low34 : zf Tryz.prog gl0 34 = some lf34 := Go.Abs.lowF (by kernel_rfl)
def lf35_B0 : LCode := .block 0 (.loop (.seq (.region [Oa 12 (.bin .lss (Tm 11) (Tm 10))]) (.seq (.cond (Tm 12) (.skip) (.exit 0)) (.seq (.block 1 (.seq (.region [Om 13 11,Oa 14 (.iadr 7 (Tm 9) (Tm 11)),Oq 15 7 true 14,Oa 5 (.newv 7 58 (.cst (.agg [.tight [],.p (.int .i64 0),.p (.bool false),.p (.bool false),.tight [],.tight [],.p (.int .i64 0)]))),Om 4 13,Oy 7 5 15]) (.regionW [(Om 16 3,.f),(Om 17 4,.f),(Oz 18 0 5,.f),(Oq 19 1 false 18,.f),(Oa 20 (.call 60 [Tm 19]),.s),(Oz 21 1 5,.s),(Oq 22 6 true 21,.s),(Oa 23 (.call 61 [Tm 22]),.f),(Oa 24 (.build (.agg [.tight [],.p (.int .i64 0),.p (.bool false),.p (.bool false),.tight [],.tight [],.p (.int .i64 0)]) [(0,1,(Tm 20)),(1,6,(Tm 23))]),.f),(Oa 25 (.iadr 7 (Tm 16) (Tm 17)),.f),(Oy 7 25 24,.f)]))) (.region [Oa 26 (.bin .add (Tm 11) (Kz 1)),Om 11 26])))))
def lf35 : LFunc := ⟨34,[.cell 2 8 true],.seq (.region [Oa 1 (.newv 8 54 (Tm 0)),Oa 2 (.newv 8 54 (.cst (.agg [.p (.str []),.tight [],.p (.int .i64 0),.p (.bool false),.p (.bool false),.tight [],.tight [],.p (.int .i64 0)])))]) (.seq (.region [Oz 6 1 1,Oq 7 1 false 6,Oa 8 (.call 59 [Tm 7]),Om 3 8]) (.seq (.seq (.region [Om 9 3,Oa 10 (.len (Tm 9)),Oa 11 (.mov (Kz 0))]) (lf35_B0)) (.seq (.regionW [(Oz 27 0 1,.s),(Oq 28 1 false 27,.s),(Om 29 3,.f),(Oz 30 2 1,.f),(Oq 31 6 true 30,.f),(Oa 32 (.call 61 [Tm 31]),.s),(Oa 33 (.build (.agg [.p (.str []),.tight [],.p (.int .i64 0),.p (.bool false),.p (.bool false),.tight [],.tight [],.p (.int .i64 0)]) [(0,1,(Tm 28)),(1,1,(Tm 29)),(2,6,(Tm 32))]),.f),(Oy 8 2 33,.f)]) (.ret))))⟩
theorem low35 : zf Tryz.prog gl0 35 = some lf35 := Go.Abs.lowF (by kernel_rfl)
def lf39 : LFunc := ⟨4,[.slot 2],.seq (.region [Oa 1 (.newv 1 24 (Tm 0)),Oa 2 (.mov (.cst (.p .nilf)))]) (.seq (.region [Oa 3 (.mkf 67 [Tm 1]),Om 2 3]) (.ret))⟩
theorem low39 : zf Tryz.prog gl0 39 = some lf39 := Go.Abs.lowF (by kernel_rfl)
def lf42 : LFunc := ⟨9,[.cell 2 4 true],.seq (.region [Oa 2 (.newv 4 76 (.cst Zp))]) (.seq (.region [Oa 3 (.call 43 [.cst (.p (.int .i64 1)),.cst (.p (.int .i64 1))]),Om 4 0,Oa 5 (.build (.agg [.p (.bool false),.tight [],.tight [],.p (.int .i64 0)]) [(0,3,(Tm 3)),(3,1,(Tm 4))]),Oa 6 (.buildSl 4 93 (.agg [.p (.bool false),.tight [],.tight [],.p (.int .i64 0)]) 1 [(0,(Tm 5))]),Oa 7 (.call 53 []),Oa 8 (.build Zp [(0,1,(Tm 6)),(1,3,(Tm 7))]),Oy 4 2 8]) (.ret))⟩
theorem low42 : zf Tryz.prog gl0 42 = some lf42 := Go.Abs.lowF (by kernel_rfl)
def lf47 : LFunc := ⟨4,[.slot 2],.seq (.region [Oa 1 (.newv 1 30 (Tm 0)),Oa 2 (.mov (.cst (.p .nilf)))]) (.seq (.region [Oa 3 (.mkf 80 [Tm 1]),Om 2 3]) (.ret))⟩
theorem low47 : zf Tryz.prog gl0 47 = some lf47 := Go.Abs.lowF (by kernel_rfl)
def lf48_B0 : LCode := .block 0 (.loop (.seq (.region [Oa 18 (.bin .lss (Tm 17) (Tm 16))]) (.seq (.cond (Tm 18) (.skip) (.exit 0)) (.seq (.block 1 (.seq (.region [Om 19 17,Oa 20 (.iadr 6 (Tm 15) (Tm 17)),Oq 21 6 true 20,Oa 8 (.newv 6 35 (.cst (.agg [.p (.int .i64 0),.p (.bool false),.p (.bool false),.tight [],.tight [],.p (.int .i64 0)]))),Om 7 19,Oy 6 8 21]) (.seq (.region [Om 22 1,Om 23 7,Oa 24 (.iadr 6 (Tm 22) (Tm 23)),Oq 25 6 true 24,Oa 9 (.newv 6 35 (.cst (.agg [.p (.int .i64 0),.p (.bool false),.p (.bool false),.tight [],.tight [],.p (.int .i64 0)]))),Oy 6 9 25]) (.seq (.region [Om 26 2,Oq 27 6 true 8,Oq 28 6 true 9,Oa 29 (.callv (Tm 26) [Tm 27,Tm 28]),Oa 30 (.un .not (Tm 29))]) (.cond (Tm 30) (.seq (.region [Oa 6 (.mov Kg)]) (.ret)) (.skip)))))) (.region [Oa 31 (.bin .add (Tm 17) (Kz 1)),Om 17 31])))))
def lf48 : LFunc := ⟨32,[.slot 6],.seq (.region [Oa 6 (.mov Kg)]) (.seq (.seq (.region [Om 10 0,Oa 11 (.len (Tm 10)),Om 12 1,Oa 13 (.len (Tm 12)),Oa 14 (.bin .neq (Tm 11) (Tm 13))]) (.cond (Tm 14) (.seq (.region [Oa 6 (.mov Kg)]) (.ret)) (.skip))) (.seq (.seq (.region [Om 15 0,Oa 16 (.len (Tm 15)),Oa 17 (.mov (Kz 0))]) (lf48_B0)) (.seq (.region [Oa 6 (.mov Kt)]) (.ret))))⟩
theorem low48 : zf Tryz.prog gl0 48 = some lf48 := Go.Abs.lowF (by kernel_rfl)
def lf49 : LFunc := ⟨31,[.slot 4],.seq (.region [Oa 2 (.newv 6 35 (Tm 0)),Oa 3 (.newv 6 35 (Tm 1)),Oa 4 (.mov Kg)]) (.seq (.seq (.region [Oz 5 0 2,Oq 6 1 false 5,Oz 7 0 3,Oq 8 1 false 7,Oa 9 (.bin .neq (Tm 6) (Tm 8))]) (.cond (Tm 9) (.seq (.region [Oa 4 (.mov Kg)]) (.ret)) (.skip))) (.seq (.seq (.region [Oz 10 0 2,Oq 11 1 false 10]) (.block 0 (.seq (.region [Oa 13 (.bin .eql (Tm 11) (Kz 0)),Om 12 13]) (.cond (Tm 12) (.seq (.region [Oz 14 1 2,Oq 15 1 false 14,Oz 16 1 3,Oq 17 1 false 16,Oa 18 (.eqB false (Tm 15) (Tm 17)),Om 4 18]) (.ret)) (.seq (.region [Oa 20 (.bin .eql (Tm 11) (Kz 1)),Om 19 20]) (.cond (Tm 19) (.seq (.region [Oz 21 2 2,Oq 22 3 true 21,Oz 23 2 3,Oq 24 3 true 23,Oa 25 (.call 81 [Tm 22,Tm 24]),Om 4 25]) (.ret)) (.skip))))))) (.seq (.region [Oz 26 5 2,Oq 27 1 false 26,Oz 28 5 3,Oq 29 1 false 28,Oa 30 (.bin .eql (Tm 27) (Tm 29)),Om 4 30]) (.ret))))⟩
theorem low49 : zf Tryz.prog gl0 49 = some lf49 := Go.Abs.lowF (by kernel_rfl)
def lf54_B0 : LCode := .block 0 (.loop (.seq (.region [Oa 9 (.bin .lss (Tm 8) (Tm 7))]) (.seq (.cond (Tm 9) (.skip) (.exit 0)) (.seq (.block 1 (.seq (.region [Om 10 8,Om 5 10]) (.seq (.region [Om 11 1,Om 12 0,Om 13 5,Oa 14 (.iadr 7 (Tm 12) (Tm 13)),Oq 15 7 true 14,Oa 16 (.callv (Tm 11) [Tm 15])]) (.cond (Tm 16) (.seq (.region [Om 17 5,Om 4 17]) (.ret)) (.skip))))) (.region [Oa 18 (.bin .add (Tm 8) (Kz 1)),Om 8 18])))))
def lf54 : LFunc := ⟨19,[.slot 4],.seq (.region [Oa 4 (.mov (Kz 0))]) (.seq (.seq (.region [Om 6 0,Oa 7 (.len (Tm 6)),Oa 8 (.mov (Kz 0))]) (lf54_B0)) (.seq (.region [Oa 4 (.mov (Kz (-1)))]) (.ret)))⟩
theorem low54 : zf Tryz.prog gl0 54 = some lf54 := Go.Abs.lowF (by kernel_rfl)
def lf55 : LFunc := ⟨8,[.slot 3],.seq (.region [Oa 2 (.newv 7 58 (Tm 0)),Oa 3 (.mov Kg)]) (.seq (.region [Oz 4 0 2,Oq 5 1 false 4,Oq 6 1 false 1,Oa 7 (.call 48 [Tm 5,Tm 6,.cst (.p (.clo 49 []))]),Om 3 7]) (.ret))⟩
theorem low55 : zf Tryz.prog gl0 55 = some lf55 := Go.Abs.lowF (by kernel_rfl)
def lf56_B0 : LCode := .block 0 (.loop (.block 1 (.seq (.region [Om 21 2,Om 22 1,Oa 23 (.bin .sub (Tm 21) (Tm 22)),Om 12 23]) (.seq (.seq (.region [Om 24 12,Oa 25 (.bin .leq (Tm 24) (Kz 12))]) (.cond (Tm 25) (.seq (.region [Om 26 0,Om 27 1,Om 28 2,Om 29 4,Oa 30 (.call 91 [Tm 26,Tm 27,Tm 28,Tm 29])]) (.ret)) (.skip))) (.seq (.seq (.region [Om 31 3,Oa 32 (.bin .eql (Tm 31) (Kz 0))]) (.cond (Tm 32) (.seq (.region [Om 33 0,Om 34 1,Om 35 2,Om 36 4,Oa 37 (.call 92 [Tm 33,Tm 34,Tm 35,Tm 36])]) (.ret)) (.skip))) (.seq (.seq (.region [Om 38 10,Oa 39 (.un .not (Tm 38))]) (.cond (Tm 39) (.seq (.region [Om 40 0,Om 41 1,Om 42 2,Om 43 4,Oa 44 (.call 93 [Tm 40,Tm 41,Tm 42,Tm 43])]) (.region [Om 45 3,Oa 46 (.bin .sub (Tm 45) (Kz 1)),Om 3 46])) (.skip))) (.seq (.region [Om 48 0,Om 49 1,Om 50 2,Om 51 4,Oa 52 (.call 94 [Tm 48,Tm 49,Tm 50,Tm 51]),Om 47 52,Ox 53 47 0,Ox 54 47 1,Om 13 53,Om 14 54]) (.seq (.seq (.region [Om 55 14,Oa 56 (.bin .eql (Tm 55) (Kz 2))]) (.cond (Tm 56) (.seq (.region [Om 57 0,Om 58 1,Om 59 2,Om 60 4,Oa 61 (.call 95 [Tm 57,Tm 58,Tm 59,Tm 60])]) (.seq (.region [Om 62 2,Oa 63 (.bin .sub (Tm 62) (Kz 1)),Om 64 13,Om 65 1,Oa 66 (.bin .sub (Tm 64) (Tm 65)),Oa 67 (.bin .sub (Tm 63) (Tm 66)),Om 13 67]) (.region [Oa 14 (.mov (Kz 1))]))) (.skip))) (.seq (.seq (.region [Om 68 10,Om 69 68,Oj 70 69 11,Ot 71 69 70,Om 72 71,Oj 73 72 14,Oc 74 72 (.bin .eql (Tm 73) (Kz 1)),Ot 75 72 74]) (.cond (Tm 75) (.seq (.region [Om 76 0,Om 77 1,Om 78 2,Om 79 4,Oa 80 (.call 96 [Tm 76,Tm 77,Tm 78,Tm 79])]) (.cond (Tm 80) (.ret) (.skip))) (.skip))) (.seq (.seq (.regionD [Om 81 1,Oa 82 (.bin .gtr (Tm 81) (Kz 0)),Om 83 82,Oj 84 83 4,Oj 85 83 0,Oj 86 83 1,Oc 87 83 (.bin .sub (Tm 86) (Kz 1)),Oc 88 83 (.iadr 8 (Tm 85) (Tm 87)),Oc 89 83 (.load 8 true (Tm 88)),Oj 90 83 0,Oj 91 83 13,Oc 92 83 (.iadr 8 (Tm 90) (Tm 91)),Oc 93 83 (.load 8 true (Tm 92)),Oc 94 83 (.callv (Tm 84) [Tm 89,Tm 93]),Oc 95 83 (.bin .lss (Tm 94) (Kz 0)),Oc 96 83 (.un .not (Tm 95)),Ot 97 83 96]) (.cond (Tm 97) (.seq (.region [Om 98 0,Om 99 1,Om 100 2,Om
 101 13,Om 102 4,Oa 103 (.call 97 [Tm 98,Tm 99,Tm 100,Tm 101,Tm 102]),Om 15 103]) (.seq (.region [Om 104 15,Om 1 104]) (.exit 1))) (.skip))) (.seq (.region [Om 106 0,Om 107 1,Om 108 2,Om 109 13,Om 110 4,Oa 111 (.call 98 [Tm 106,Tm 107,Tm 108,Tm 109,Tm 110]),Om 105 111,Ox 112 105 0,Ox 113 105 1,Om 16 112,Om 17 113]) (.seq (.region [Om 114 17,Om 11 114]) (.seq (.region [Om 115 16,Om 116 1,Oa 117 (.bin .sub (Tm 115) (Tm 116)),Om 118 2,Om 119 16,Oa 120 (.bin .sub (Tm 118) (Tm 119)),Om 18 117,Om 19 120]) (.seq (.region [Om 121 12,Oa 122 (.bin .quo (Tm 121) (Kz 8)),Om 20 122]) (.seq (.region [Om 123 18,Om 124 19,Oa 125 (.bin .lss (Tm 123) (Tm 124))]) (.cond (Tm 125) (.seq (.region [Om 126 18,Om 127 20,Oa 128 (.bin .geq (Tm 126) (Tm 127)),Om 10 128]) (.seq (.region [Om 129 0,Om 130 1,Om 131 16,Om 132 3,Om 133 4,Oa 134 (.call 56 [Tm 129,Tm 130,Tm 131,Tm 132,Tm 133])]) (.region [Om 135 16,Oa 136 (.bin .add (Tm 135) (Kz 1)),Om 1 136]))) (.seq (.region [Om 137 19,Om 138 20,Oa 139 (.bin .geq (Tm 137) (Tm 138)),Om 10 139]) (.seq (.region [Om 140 0,Om 141 16,Oa 142 (.bin .add (Tm 141) (Kz 1)),Om 143 2,Om 144 3,Om 145 4,Oa 146 (.call 56 [Tm 140,Tm 142,Tm 143,Tm 144,Tm 145])]) (.region [Om 147 16,Om 2 147])))))))))))))))))))
def lf56 : LFunc := ⟨148,[],.seq (.region [Oa 10 (.mov Kt)]) (.seq (.region [Oa 11 (.mov Kt)]) (lf56_B0))⟩
theorem low56 : zf Tryz.prog gl0 56 = some lf56 := Go.Abs.lowF (by kernel_rfl)
def lf57 : LFunc := ⟨8,[.slot 2],.seq (.region [Oa 2 (.mov (Kz 0))]) (.seq (.cond Kg (.seq (.region [Om 3 0,Oa 4 (.conv (.toInt .u32) (Tm 3)),Oa 5 (.call 99 [Tm 4]),Om 2 5]) (.ret)) (.skip)) (.seq (.region [Om 6 0,Oa 7 (.call 100 [Tm 6]),Om 2 7]) (.ret)))⟩
theorem low57 : zf Tryz.prog gl0 57 = some lf57 := Go.Abs.lowF (by kernel_rfl)
def lf58 : LFunc := ⟨6,[.slot 2],.seq (.region [Oa 2 (.mov Kg)]) (.seq (.region [Om 3 0,Om 4 0,Oa 5 (.bin .neq (Tm 3) (Tm 4)),Om 2 5]) (.ret))⟩
theorem low58 : zf Tryz.prog gl0 58 = some lf58 := Go.Abs.lowF (by kernel_rfl)
def lf59 : LFunc := ⟨8,[.slot 2],.seq (.region [Oa 2 (.mov (.cst (.tight [])))]) (.seq (.seq (.region [Om 3 0,Oa 4 (.eqS false (Tm 3) (.cst (.tight [])))]) (.cond (Tm 4) (.seq (.region [Oa 2 (.mov (.cst (.tight [])))]) (.ret)) (.skip))) (.seq (.region [Oa 5 (.buildSl 7 58 (.agg [.tight [],.p (.int .i64 0),.p (.bool false),.p (.bool false),.tight [],.tight [],.p (.int .i64 0)]) 0 []),Om 6 0,Oa 7 (.app 7 104 58 (Tm 5) (Tm 6)),Om 2 7]) (.ret)))⟩
theorem low59 : zf Tryz.prog gl0 59 = some lf59 := Go.Abs.lowF (by kernel_rfl)
def lf60_B0 : LCode := .block 0 (.loop (.seq (.region [Oa 10 (.bin .lss (Tm 9) (Tm 8))]) (.seq (.cond (Tm 10) (.skip) (.exit 0)) (.seq (.block 1 (.seq (.region [Om 11 9,Om 4 11]) (.region [Om 12 3,Om 13 4,Om 14 3,Om 15 4,Oa 16 (.iadr 6 (Tm 14) (Tm 15)),Oq 17 6 true 16,Oa 18 (.call 61 [Tm 17]),Oa 19 (.iadr 6 (Tm 12) (Tm 13)),Oy 6 19 18]))) (.region [Oa 20 (.bin .add (Tm 9) (Kz 1)),Om 9 20])))))
def lf60 : LFunc := ⟨22,[.slot 2],.seq (.region [Oa 2 (.mov (.cst (.tight [])))]) (.seq (.region [Om 5 0,Oa 6 (.call 101 [Tm 5]),Om 3 6]) (.seq (.seq (.region [Om 7 3,Oa 8 (.len (Tm 7)),Oa 9 (.mov (Kz 0))]) (lf60_B0)) (.seq (.region [Om 21 3,Om 2 21]) (.ret))))⟩
theorem low60 : zf Tryz.prog gl0 60 = some lf60 := Go.Abs.lowF (by kernel_rfl)
def lf61 : LFunc := ⟨8,[.cell 2 6 true],.seq (.region [Oa 1 (.newv 6 35 (Tm 0)),Oa 2 (.newv 6 35 (.cst (.agg [.p (.int .i64 0),.p (.bool false),.p (.bool false),.tight [],.tight [],.p (.int .i64 0)])))]) (.seq (.region [Oz 3 2 1,Oq 4 3 true 3,Oa 5 (.call 75 [Tm 4]),Oz 6 2 1,Oy 3 6 5]) (.seq (.region [Oq 7 6 true 1,Oy 6 2 7]) (.ret)))⟩
theorem low61 : zf Tryz.prog gl0 61 = some lf61 := Go.Abs.lowF (by kernel_rfl)
def lf101 : LFunc := ⟨8,[.slot 2],.seq (.region [Oa 2 (.mov (.cst (.tight [])))]) (.seq (.seq (.region [Om 3 0,Oa 4 (.eqS false (Tm 3) (.cst (.tight [])))]) (.cond (Tm 4) (.seq (.region [Oa 2 (.mov (.cst (.tight [])))]) (.ret)) (.skip))) (.seq (.region [Oa 5 (.buildSl 6 35 (.agg [.p (.int .i64 0),.p (.bool false),.p (.bool false),.tight [],.tight [],.p (.int .i64 0)]) 0 []),Om 6 0,Oa 7 (.app 6 80 35 (Tm 5) (Tm 6)),Om 2 7]) (.ret)))⟩
theorem low101 : zf Tryz.prog gl0 101 = some lf101 := Go.Abs.lowF (by kernel_rfl)
def lf91_B0 : LCode := .block 2 (.loop (.seq (.seq (.regionD [Om 18 9,Om 19 1,Oa 20 (.bin .gtr (Tm 18) (Tm 19)),Om 21 20,Oj 22 21 3,Oj 23 21 0,Oj 24 21 9,Oc 25 21 (.iadr 8 (Tm 23) (Tm 24)),Oc 26 21 (.load 8 true (Tm 25)),Oj 27 21 0,Oj 28 21 9,Oc 29 21 (.bin .sub (Tm 28) (Kz 1)),Oc 30 21 (.iadr 8 (Tm 27) (Tm 29)),Oc 31 21 (.load 8 true (Tm 30)),Oc 32 21 (.callv (Tm 22) [Tm 26,Tm 31]),Oc 33 21 (.bin .lss (Tm 32) (Kz 0)),Ot 34 21 33]) (.cond (Tm 34) (.skip) (.exit 2))) (.seq (.block 3 (.regionW [(Om 37 0,.f),(Om 38 9,.f),(Om 39 0,.f),(Om 40 9,.f),(Oa 41 (.bin .sub (Tm 40) (Kz 1)),.f),(Om 42 0,.f),(Om 43 9,.f),(Oa 44 (.bin .sub (Tm 43) (Kz 1)),.f),(Oa 45 (.iadr 8 (Tm 42) (Tm 44)),.f),(Oq 46 8 true 45,.f),(Om 47 0,.f),(Om 48 9,.f),(Oa 49 (.iadr 8 (Tm 47) (Tm 48)),.f),(Oq 50 8 true 49,.f),(Oa 51 (.iadr 8 (Tm 37) (Tm 38)),.f),(Oy 8 51 46,.f),(Oa 52 (.iadr 8 (Tm 39) (Tm 41)),.f),(Oy 8 52 50,.f)])) (.region [Om 35 9,Oa 36 (.bin .sub (Tm 35) (Kz 1)),Om 9 36]))))
def lf91_B1 : LCode := .block 0 (.loop (.seq (.seq (.region [Om 12 8,Om 13 2,Oa 14 (.bin .lss (Tm 12) (Tm 13))]) (.cond (Tm 14) (.skip) (.exit 0))) (.seq (.block 1 (.seq (.region [Om 17 8,Om 9 17]) (lf91_B0))) (.region [Om 15 8,Oa 16 (.bin .add (Tm 15) (Kz 1)),Om 8 16]))))
def lf91 : LFunc := ⟨53,[],.seq (.region [Om 10 1,Oa 11 (.bin .add (Tm 10) (Kz 1)),Om 8 11]) (lf91_B1)⟩
theorem low91 : zf Tryz.prog gl0 91 = some lf91 := Go.Abs.lowF (by kernel_rfl)
def lf3_B0 : LCode := .block 0 (.loop (.seq (.seq (.region [Om 83 18,Om 84 0,Oa 85 (.len (Tm 84)),Oa 86 (.bin .lss (Tm 83) (Tm 85))]) (.cond (Tm 86) (.skip) (.exit 0))) (.seq (.block 1 (.seq (.region [Om 89 0,Om 90 18,Oa 91 (.iadr 1 (Tm 89) (Tm 90)),Oq 92 1 false 91,Oa 93 (.call 7 [Tm 92,.cst (.p (.int .i64 2))]),Oa 94 (.bin .add (Kz 1) (Tm 93)),Om 19 94]) (.seq (.regionD [Om 95 2,Om 96 18,Oa 97 (.iadr 1 (Tm 95) (Tm 96)),Oq 98 1 false 97,Oa 99 (.call 7 [Tm 98,.cst (.p (.int .i64 2))]),Om 100 3,Om 101 18,Oa 102 (.iadr 1 (Tm 100) (Tm 101)),Oq 103 1 false 102,Oa 104 (.call 7 [Tm 103,.cst (.p (.int .i64 2))]),Om 20 99,Om 21 104]) (.seq (.region [Om 105 11,Om 106 18,Oa 107 (.bin .add (Kz 10) (Tm 106)),Om 108 19,Oa 109 (.build (.p (.agg [.int .i64 0,.int .i64 0])) [(0,1,(Tm 107)),(1,1,(Tm 108))]),Oa 110 (.buildSl 2 29 (.p (.agg [.int .i64 0,.int .i64 0])) 1 [(0,(Tm 109))]),Oa 111 (.app 2 16 29 (Tm 105) (Tm 110)),Om 11 111]) (.seq (.regionN 2 [(Oz 112 2 12,.s),(Oq 113 1 false 112,.s),(Om 114 18,.f),(Oa 115 (.bin .add (Kz 10) (Tm 114)),.f),(Oa 116 (.buildSl 1 3 (.p (.int .i64 0)) 1 [(0,(Tm 115))]),.n 0),(Oa 117 (.app 1 8 3 (Tm 113) (Tm 116)),.a [1]),(Oz 118 2 13,.s),(Oq 119 1 false 118,.s),(Om 120 18,.f),(Oa 121 (.bin .add (Kz 20) (Tm 120)),.f),(Oa 122 (.buildSl 1 3 (.p (.int .i64 0)) 1 [(0,(Tm 121))]),.n 1),(Oa 123 (.app 1 8 3 (Tm 119) (Tm 122)),.s),(Oz 124 2 12,.s),(Oy 1 124 117,.f),(Oz 125 2 13,.f),(Oy 1 125 123,.f)]) (.seq (.region [Om 126 15,Om 127 18,Oa 128 (.bin .add (Kz 10) (Tm 127)),Om 129 19,Om 130 20,Oa 131 (.call 8 [Tm 129,Tm 130]),Oa 132 (.build (.agg [.p (.int .i64 0),.p (.int .i64 0),.p (.bool false),.p (.bool false),.tight [],.tight [],.p (.int .i64 0)]) [(0,1,(Tm 128)),(1,6,(Tm 131))]),Om 133 18,Oa 134 (.bin .add (Kz 20) (Tm 133)),Om 135 19,Om 136 21,Oa 137 (.call 8 [Tm 135,Tm 136]),Oa 138 (.build (.agg [.p (.int .i64 0),.p (.int .i64 0),.p (.bool false),.p (.bool false),.tight [],.tight [],.p (.int .i64 0)]) [(0,1,(Tm 134)),(1,6,(Tm 137))]),Oa 139 (.buildSl 7 38 (.agg [.p (.int
 .i64 0),.p (.int .i64 0),.p (.bool false),.p (.bool false),.tight [],.tight [],.p (.int .i64 0)]) 2 [(0,(Tm 132)),(1,(Tm 138))]),Oa 140 (.app 7 88 38 (Tm 126) (Tm 139)),Om 15 140]) (.region [Om 141 16,Oa 142 (.bin .mul (Kz 2) (Tm 141)),Om 143 20,Oa 144 (.bin .add (Tm 142) (Tm 143)),Om 145 17,Oa 146 (.bin .mul (Kz 2) (Tm 145)),Om 147 21,Oa 148 (.bin .add (Tm 146) (Tm 147)),Om 16 144,Om 17 148]))))))) (.region [Om 87 18,Oa 88 (.bin .add (Tm 87) (Kz 1)),Om 18 88]))))
def lf3_B1 : LCode := .block 2 (.loop (.seq (.seq (.region [Om 149 22,Om 150 0,Oa 151 (.len (Tm 150)),Oa 152 (.bin .lss (Tm 149) (Tm 151))]) (.cond (Tm 152) (.skip) (.exit 2))) (.seq (.block 3 (.region [Om 155 11,Om 156 22,Oa 157 (.bin .add (Kz 20) (Tm 156)),Om 158 0,Om 159 22,Oa 160 (.iadr 1 (Tm 158) (Tm 159)),Oq 161 1 false 160,Oa 162 (.call 7 [Tm 161,.cst (.p (.int .i64 2))]),Oa 163 (.bin .add (Kz 1) (Tm 162)),Oa 164 (.build (.p (.agg [.int .i64 0,.int .i64 0])) [(0,1,(Tm 157)),(1,1,(Tm 163))]),Oa 165 (.buildSl 2 29 (.p (.agg [.int .i64 0,.int .i64 0])) 1 [(0,(Tm 164))]),Oa 166 (.app 2 16 29 (Tm 155) (Tm 165)),Om 11 166])) (.region [Om 153 22,Oa 154 (.bin .add (Tm 153) (Kz 1)),Om 22 154]))))
def lf3 : LFunc := ⟨238,[.slot 10],.seq (.region [Oa 10 (.mov Kg)]) (.seq (.seq (.region [Om 29 0,Oa 30 (.len (Tm 29)),Oa 31 (.bin .lss (Tm 30) (Kz 1)),Om 32 31,Oo 33 32 0,Od 34 32 (.len (Tm 33)),Od 35 32 (.bin .gtr (Tm 34) (Kz 3)),Ou 36 32 35,Om 37 36,Oo 38 37 2,Od 39 37 (.len (Tm 38)),Oo 40 37 0,Od 41 37 (.len (Tm 40)),Od 42 37 (.bin .lss (Tm 39) (Tm 41)),Ou 43 37 42,Om 44 43,Oo 45 44 3,Od 46 44 (.len (Tm 45)),Oo 47 44 0,Od 48 44 (.len (Tm 47)),Od 49 44 (.bin .lss (Tm 46) (Tm 48)),Ou 50 44 49,Om 51 50,Oo 52 51 2,Od 53 51 (.len (Tm 52)),Od 54 51 (.bin .gtr (Tm 53) (Kz 6)),Ou 55 51 54,Om 56 55,Oo 57 56 3,Od 58 56 (.len (Tm 57)),Od 59 56 (.bin .gtr (Tm 58) (Kz 6)),Ou 60 56 59,Om 61 60,Oo 62 61 4,Od 63 61 (.len (Tm 62)),Od 64 61 (.bin .lss (Tm 63) (Kz 1)),Ou 65 61 64,Om 66 65,Oo 67 66 4,Od 68 66 (.len (Tm 67)),Od 69 66 (.bin .gtr (Tm 68) (Kz 30)),Ou 70 66 69]) (.cond (Tm 70) (.seq (.region [Oa 71 (.call 6 []),Om 10 71]) (.ret)) (.skip))) (.seq (.region [Oa 11 (.mov (.cst (.tight [])))]) (.seq (.region [Oa 72 (.build (.agg [.p (.int .i64 0),.p (.str []),.tight []]) [(0,1,(Kz 1)),(1,1,(.cst (.p (.str [102]))))]),Oa 73 (.build (.agg [.p (.int .i64 0),.p (.str []),.tight []]) [(0,1,(Kz 2)),(1,1,(.cst (.p (.str [102]))))]),Oa 12 (.newv 3 26 (.cst (.agg [.p (.int .i64 0),.p (.str []),.tight []]))),Oa 13 (.newv 3 26 (.cst (.agg [.p (.int .i64 0),.p (.str []),.tight []]))),Oy 3 12 72,Oy 3 13 73]) (.seq (.region [Om 74 1,Oa 75 (.call 7 [Tm 74,.cst (.p (.int .i64 3))]),Om 14 75]) (.seq (.region [Om 76 11,Om 77 14,Oa 78 (.build (.p (.agg [.int .i64 0,.int .i64 0])) [(0,1,(Kz 1)),(1,1,(Tm 77))]),Om 79 14,Oa 80 (.build (.p (.agg [.int .i64 0,.int .i64 0])) [(0,1,(Kz 2)),(1,1,(Tm 79))]),Oa 81 (.buildSl 2 29 (.p (.agg [.int .i64 0,.int .i64 0])) 2 [(0,(Tm 78)),(1,(Tm 80))]),Oa 82 (.app 2 16 29 (Tm 76) (Tm 81)),Om 11 82]) (.seq (.region [Oa 15 (.mov (.cst (.tight [])))]) (.seq (.region [Oa 16 (.mov (Kz 0)),Oa 17 (.mov (Kz 0))]) (.seq (.seq (.region [Oa 18 (.mov (Kz 0))]) (lf3_B0)) (.seq (.seq (.region
 [Oa 22 (.mov (Kz 0))]) (lf3_B1)) (.seq (.regionN 1 [(Om 167 15,.f),(Om 168 14,.f),(Om 169 4,.f),(Om 170 16,.f),(Om 171 4,.f),(Oa 172 (.len (Tm 171)),.f),(Oa 173 (.bin .rem (Tm 170) (Tm 172)),.f),(Oa 174 (.iadr 1 (Tm 169) (Tm 173)),.f),(Oq 175 1 false 174,.f),(Oa 176 (.call 7 [Tm 175,.cst (.p (.int .i64 2))]),.s),(Oa 177 (.call 8 [Tm 168,Tm 176]),.s),(Oa 178 (.build (.agg [.p (.int .i64 0),.p (.int .i64 0),.p (.bool false),.p (.bool false),.tight [],.tight [],.p (.int .i64 0)]) [(0,1,(Kz 1)),(1,6,(Tm 177))]),.f),(Om 179 14,.f),(Om 180 4,.f),(Om 181 17,.f),(Om 182 4,.f),(Oa 183 (.len (Tm 182)),.s),(Oa 184 (.bin .rem (Tm 181) (Tm 183)),.f),(Oa 185 (.iadr 1 (Tm 180) (Tm 184)),.s),(Oq 186 1 false 185,.s),(Oa 187 (.call 7 [Tm 186,.cst (.p (.int .i64 2))]),.f),(Oa 188 (.call 8 [Tm 179,Tm 187]),.f),(Oa 189 (.build (.agg [.p (.int .i64 0),.p (.int .i64 0),.p (.bool false),.p (.bool false),.tight [],.tight [],.p (.int .i64 0)]) [(0,1,(Kz 2)),(1,6,(Tm 188))]),.f),(Oa 190 (.buildSl 7 38 (.agg [.p (.int .i64 0),.p (.int .i64 0),.p (.bool false),.p (.bool false),.tight [],.tight [],.p (.int .i64 0)]) 2 [(0,(Tm 178)),(1,(Tm 189))]),.n 0),(Oa 191 (.app 7 88 38 (Tm 167) (Tm 190)),.f),(Om 15 191,.f)]) (.seq (.region [Om 193 11,Oq 194 3 true 12,Oq 195 3 true 13,Oa 196 (.call 9 [Tm 193,Tm 194,Tm 195]),Om 192 196,Ox 197 192 0,Ox 198 192 1,Ox 199 192 2,Om 23 197,Om 24 198,Om 25 199]) (.seq (.region [Oq 201 3 true 12,Oq 202 3 true 13,Oa 203 (.buildSl 3 26 (.agg [.p (.int .i64 0),.p (.str []),.tight []]) 2 [(0,(Tm 201)),(1,(Tm 202))]),Om 204 15,Oa 205 (.call 10 [Tm 203,Tm 204]),Om 200 205,Ox 206 200 0,Ox 207 200 1,Ox 208 200 2,Om 26 206,Om 27 207,Om 28 208]) (.seq (.seq (.region [Om 209 25,Oa 210 (.bin .neq (Tm 209) (Kz 0)),Om 211 210,Oo 212 211 28,Ou 213 211 212,Om 214 213,Oo 215 214 14,Od 216 214 (.bin .eql (Tm 215) (Kz 0)),Oo 217 214 24,Od 218 214 (.len (Tm 217)),Od 219 214 (.bin .gtr (Tm 218) (Kz 0)),Od 220 214 (.eqB true (Tm 216) (Tm 219)),Ou 221 214 220]) (.cond (Tm 221) (.seq
 (.region [Oa 10 (.mov Kg)]) (.ret)) (.skip))) (.seq (.region [Om 222 23,Om 223 15,Oa 224 (.call 11 [Tm 222,Tm 223]),Om 225 224,Oj 226 225 24,Oc 227 225 (.len (Tm 226)),Oc 228 225 (.bin .eql (Tm 227) (Kz 0)),Oj 229 225 228,Oo 230 229 24,Oo 231 229 15,Od 232 229 (.call 11 [Tm 230,Tm 231]),Oc 233 225 (.pick (Tm 229) Kt (Tm 232)),Ot 234 225 233,Om 235 234,Oc 236 235 (.call 6 []),Ot 237 235 236,Om 10 237]) (.ret)))))))))))))))⟩
theorem low3 : wZ Tryz.prog gl0 true 3 = some lf3 := lowN (by kernel_rfl)
def lf6 : LFunc := ⟨190,[.slot 0],.seq (.region [Oa 0 (.mov Kg)]) (.seq (.region [Oa 21 (.buildSl 1 3 (.p (.int .i64 0)) 1 [(0,(Kz 5))]),Oa 22 (.build (.agg [.p (.int .i64 0),.p (.str []),.tight []]) [(0,1,(Kz 1)),(1,1,(.cst (.p (.str [102])))),(2,1,(Tm 21))]),Oa 23 (.buildSl 1 3 (.p (.int .i64 0)) 1 [(0,(Kz 6))]),Oa 24 (.build (.agg [.p (.int .i64 0),.p (.str []),.tight []]) [(0,1,(Kz 2)),(1,1,(.cst (.p (.str [102])))),(2,1,(Tm 23))]),Oa 25 (.buildSl 3 26 (.agg [.p (.int .i64 0),.p (.str []),.tight []]) 2 [(0,(Tm 22)),(1,(Tm 24))]),Om 1 25]) (.seq (.region [Oa 26 (.build (.p (.agg [.int .i64 0,.int .i64 0])) [(0,1,(Kz 1)),(1,1,(Kz 1))]),Oa 27 (.build (.p (.agg [.int .i64 0,.int .i64 0])) [(0,1,(Kz 2)),(1,1,(Kz 1))]),Oa 28 (.build (.p (.agg [.int .i64 0,.int .i64 0])) [(0,1,(Kz 5)),(1,1,(Kz 2))]),Oa 29 (.build (.p (.agg [.int .i64 0,.int .i64 0])) [(0,1,(Kz 6)),(1,1,(Kz 2))]),Oa 30 (.buildSl 2 29 (.p (.agg [.int .i64 0,.int .i64 0])) 4 [(0,(Tm 26)),(1,(Tm 27)),(2,(Tm 28)),(3,(Tm 29))]),Om 2 30]) (.seq (.region [Oa 31 (.call 19 [.cst (.p (.int .i64 1)),.cst (.p (.int .i64 1))]),Oa 32 (.build (.agg [.p (.int .i64 0),.p (.bool false),.p (.bool false),.tight [],.tight [],.p (.int .i64 0)]) [(0,1,(Kz 1)),(2,3,(Tm 31))]),Oa 33 (.call 19 [.cst (.p (.int .i64 2)),.cst (.p (.int .i64 1))]),Oa 34 (.build (.agg [.p (.int .i64 0),.p (.bool false),.p (.bool false),.tight [],.tight [],.p (.int .i64 0)]) [(0,1,(Kz 1)),(2,3,(Tm 33))]),Oa 3 (.newv 6 35 (.cst (.agg [.p (.int .i64 0),.p (.bool false),.p (.bool false),.tight [],.tight [],.p (.int .i64 0)]))),Oa 4 (.newv 6 35 (.cst (.agg [.p (.int .i64 0),.p (.bool false),.p (.bool false),.tight [],.tight [],.p (.int .i64 0)]))),Oy 6 3 32,Oy 6 4 34]) (.seq (.region [Oq 35 6 true 3,Oa 36 (.build (.agg [.p (.int .i64 0),.p (.int .i64 0),.p (.bool false),.p (.bool false),.tight [],.tight [],.p (.int .i64 0)]) [(0,1,(Kz 1)),(1,6,(Tm 35))]),Oq 37 6 true 4,Oa 38 (.build (.agg [.p (.int .i64 0),.p (.int .i64 0),.p (.bool false),.p (.bool false),.tight [],.tight
 [],.p (.int .i64 0)]) [(0,1,(Kz 2)),(1,6,(Tm 37))]),Oa 39 (.build (.agg [.p (.int .i64 0),.p (.bool false),.p (.bool false),.tight [],.tight [],.p (.int .i64 0)]) [(0,1,(Kz 2))]),Oa 40 (.build (.agg [.p (.int .i64 0),.p (.int .i64 0),.p (.bool false),.p (.bool false),.tight [],.tight [],.p (.int .i64 0)]) [(0,1,(Kz 5)),(1,6,(Tm 39))]),Oa 41 (.build (.agg [.p (.int .i64 0),.p (.bool false),.p (.bool false),.tight [],.tight [],.p (.int .i64 0)]) [(0,1,(Kz 2))]),Oa 42 (.build (.agg [.p (.int .i64 0),.p (.int .i64 0),.p (.bool false),.p (.bool false),.tight [],.tight [],.p (.int .i64 0)]) [(0,1,(Kz 6)),(1,6,(Tm 41))]),Oa 43 (.buildSl 7 38 (.agg [.p (.int .i64 0),.p (.int .i64 0),.p (.bool false),.p (.bool false),.tight [],.tight [],.p (.int .i64 0)]) 4 [(0,(Tm 36)),(1,(Tm 38)),(2,(Tm 40)),(3,(Tm 42))]),Om 5 43]) (.seq (.region [Om 45 1,Om 46 5,Oa 47 (.call 10 [Tm 45,Tm 46]),Om 44 47,Ox 48 44 0,Ox 49 44 1,Ox 50 44 2,Om 6 48,Om 7 49,Om 8 50]) (.seq (.regionD [Om 52 2,Om 53 1,Oa 54 (.iadr 3 (Tm 53) (Kz 0)),Oq 55 3 true 54,Om 56 1,Oa 57 (.iadr 3 (Tm 56) (Kz 1)),Oq 58 3 true 57,Oa 59 (.call 9 [Tm 52,Tm 55,Tm 58]),Om 51 59,Ox 60 51 0,Ox 61 51 1,Ox 62 51 2,Om 9 60,Om 10 61,Om 11 62]) (.seq (.region [Om 64 1,Om 65 2,Om 66 5,Oa 67 (.call 12 [Tm 64,Tm 65,Tm 66]),Om 63 67,Ox 68 63 0,Ox 69 63 1,Om 12 68,Om 13 69]) (.seq (.region [Om 70 5,Oa 71 (.iadr 7 (Tm 70) (Kz 3)),Oz 72 1 71,Oz 73 5 72,Ob (.store 1 (Tm 73) (Kz 1))]) (.seq (.region [Om 75 1,Om 76 2,Om 77 5,Oa 78 (.call 12 [Tm 75,Tm 76,Tm 77]),Om 74 78,Ox 79 74 0,Ox 80 74 1,Om 14 79,Om 15 80]) (.seq (.region [Oa 81 (.build (.agg [.p (.int .i64 0),.p (.bool false),.p (.bool false),.tight [],.tight [],.p (.int .i64 0)]) [(0,1,(Kz 2))]),Oa 82 (.build (.agg [.p (.int .i64 0),.p (.bool false),.p (.bool false),.tight [],.tight [],.p (.int .i64 0)]) [(0,1,(Kz 2)),(5,1,(Kz 2))]),Oa 83 (.build (.agg [.p (.int .i64 0),.p (.bool false),.p (.bool false),.tight [],.tight [],.p (.int .i64 0)]) [(0,1,(Kz 3)),(5,1,(Kz 1))]),Oa 84 (.buildSl 6 35
 (.agg [.p (.int .i64 0),.p (.bool false),.p (.bool false),.tight [],.tight [],.p (.int .i64 0)]) 3 [(0,(Tm 81)),(1,(Tm 82)),(2,(Tm 83))]),Oa 85 (.call 18 [.cst (.p (.int .i64 2)),Tm 84]),Oa 16 (.newv 6 35 (.cst (.agg [.p (.int .i64 0),.p (.bool false),.p (.bool false),.tight [],.tight [],.p (.int .i64 0)]))),Oy 6 16 85]) (.seq (.region [Oa 87 (.build (.p (.agg [.int .i64 0,.int .i64 0])) [(0,1,(Kz 1)),(1,1,(Kz 2))]),Oa 88 (.build (.p (.agg [.int .i64 0,.int .i64 0])) [(0,1,(Kz 3)),(1,1,(Kz 2))]),Oa 89 (.build (.p (.agg [.int .i64 0,.int .i64 0])) [(0,1,(Kz 3)),(1,1,(Kz 4))]),Oa 90 (.build (.p (.agg [.int .i64 0,.int .i64 0])) [(0,1,(Kz 2)),(1,1,(Kz 4))]),Oa 91 (.buildSl 2 67 (.p (.agg [.int .i64 0,.int .i64 0])) 4 [(0,(Tm 87)),(1,(Tm 88)),(2,(Tm 89)),(3,(Tm 90))]),Oa 92 (.call 17 [Tm 91,.cst (.p (.int .i64 1)),.cst (.p (.int .i64 4))]),Om 86 92,Ox 93 86 0,Ox 94 86 1,Om 17 93,Om 18 94]) (.seq (.region [Oa 96 (.call 17 [.cst (.tight []),.cst (.p (.int .i64 1)),.cst (.p (.int .i64 2))]),Om 95 96,Ox 97 95 0,Ox 98 95 1,Om 19 97,Om 20 98]) (.seq (.region [Om 99 8,Om 100 99,Oj 101 100 6,Oc 102 100 (.bin .eql (Tm 101) (Kz 0)),Ot 103 100 102,Om 104 103,Oj 105 104 7,Oc 106 104 (.bin .eql (Tm 105) (Kz 1)),Ot 107 104 106,Om 108 107,Oj 109 108 11,Oc 110 108 (.bin .eql (Tm 109) (Kz 0)),Ot 111 108 110,Om 112 111,Oj 113 112 9,Oc 114 112 (.len (Tm 113)),Oc 115 112 (.bin .eql (Tm 114) (Kz 2)),Ot 116 112 115,Om 117 116,Oj 118 117 10,Oc 119 117 (.len (Tm 118)),Oc 120 117 (.bin .eql (Tm 119) (Kz 0)),Ot 121 117 120,Om 122 121,Oj 123 122 9,Oc 124 122 (.iadr 8 (Tm 123) (Kz 0)),Oc 125 122 (.fadr 7 (Tm 124)),Oc 126 122 (.load 1 false (Tm 125)),Ot 127 122 126,Om 128 127,Oj 129 128 9,Oc 130 128 (.iadr 8 (Tm 129) (Kz 0)),Oc 131 128 (.fadr 0 (Tm 130)),Oc 132 128 (.fadr 0 (Tm 131)),Oc 133 128 (.load 1 false (Tm 132)),Oc 134 128 (.bin .eql (Tm 133) (Kz 5)),Ot 135 128 134,Om 136 135,Oj 137 136 9,Oc 138 136 (.iadr 8 (Tm 137) (Kz 1)),Oc 139 136 (.fadr 0 (Tm 138)),Oc 140 136 (.fadr 0 (Tm 139)),Oc 141
 136 (.load 1 false (Tm 140)),Oc 142 136 (.bin .eql (Tm 141) (Kz 3)),Ot 143 136 142,Om 144 143,Oj 145 144 13,Oc 146 144 (.bin .eql (Tm 145) (Kz 1)),Ot 147 144 146,Om 148 147,Oj 149 148 15,Oc 150 148 (.bin .eql (Tm 149) (Kz 0)),Ot 151 148 150,Om 152 151,Oj 153 152 14,Oc 154 152 (.len (Tm 153)),Oc 155 152 (.bin .eql (Tm 154) (Kz 1)),Ot 156 152 155,Om 157 156,Oj 158 157 14,Oc 159 157 (.iadr 8 (Tm 158) (Kz 0)),Oc 160 157 (.fadr 1 (Tm 159)),Oc 161 157 (.load 1 false (Tm 160)),Oc 162 157 (.len (Tm 161)),Oc 163 157 (.bin .eql (Tm 162) (Kz 2)),Ot 164 157 163,Om 165 164,Oc 166 165 (.fadr 5 (Tm 16)),Oc 167 165 (.load 1 false (Tm 166)),Oc 168 165 (.bin .eql (Tm 167) (Kz 1)),Ot 169 165 168,Om 170 169,Oj 171 170 18,Oc 172 170 (.bin .eql (Tm 171) (Kz 0)),Ot 173 170 172,Om 174 173,Oj 175 174 17,Oc 176 174 (.len (Tm 175)),Oc 177 174 (.bin .eql (Tm 176) (Kz 2)),Ot 178 174 177,Om 179 178,Oj 180 179 17,Oc 181 179 (.iadr 2 (Tm 180) (Kz 1)),Oc 182 179 (.load 2 true (Tm 181)),Oc 183 179 (.build (.p (.agg [.int .i64 0,.int .i64 0])) [(0,1,(Kz 2)),(1,1,(Kz 4))]),Oc 184 179 (.eqA false [.i,.i] (Tm 182) (Tm 183)),Ot 185 179 184,Om 186 185,Oj 187 186 20,Oc 188 186 (.bin .eql (Tm 187) (Kz 5)),Ot 189 186 188,Om 0 189]) (.ret))))))))))))))⟩
theorem low6 : zf Tryz.prog gl0 6 = some lf6 := Go.Abs.lowF (by kernel_rfl)
def lf8 : LFunc := ⟨20,[.cell 4 6 true],.seq (.region [Oa 4 (.newv 6 35 (.cst (.agg [.p (.int .i64 0),.p (.bool false),.p (.bool false),.tight [],.tight [],.p (.int .i64 0)])))]) (.seq (.seq (.region [Om 5 0]) (.block 0 (.seq (.region [Oa 7 (.bin .eql (Tm 5) (Kz 0)),Om 6 7]) (.cond (Tm 6) (.seq (.region [Om 8 1,Oa 9 (.bin .eql (Tm 8) (Kz 1)),Oa 10 (.build (.agg [.p (.int .i64 0),.p (.bool false),.p (.bool false),.tight [],.tight [],.p (.int .i64 0)]) [(1,1,(Tm 9))]),Oy 6 4 10]) (.ret)) (.seq (.region [Oa 12 (.bin .eql (Tm 5) (Kz 1)),Om 11 12]) (.cond (Tm 11) (.seq (.region [Om 13 0,Om 14 1,Oa 15 (.call 19 [Tm 14,.cst (.p (.int .i64 1))]),Oa 16 (.build (.agg [.p (.int .i64 0),.p (.bool false),.p (.bool false),.tight [],.tight [],.p (.int .i64 0)]) [(0,1,(Tm 13)),(2,3,(Tm 15))]),Oy 6 4 16]) (.ret)) (.skip))))))) (.seq (.region [Om 17 0,Om 18 1,Oa 19 (.build (.agg [.p (.int .i64 0),.p (.bool false),.p (.bool false),.tight [],.tight [],.p (.int .i64 0)]) [(0,1,(Tm 17)),(5,1,(Tm 18))]),Oy 6 4 19]) (.ret)))⟩
theorem low8 : zf Tryz.prog gl0 8 = some lf8 := Go.Abs.lowF (by kernel_rfl)
def lf11_B0 : LCode := .block 3 (.loop (.seq (.seq (.region [Om 23 9,Oz 24 1 6,Oz 25 0 24,Oq 26 1 false 25,Oa 27 (.len (Tm 26)),Oa 28 (.bin .lss (Tm 23) (Tm 27))]) (.cond (Tm 28) (.skip) (.exit 3))) (.seq (.block 4 (.regionW [(Om 31 8,.f),(Oz 32 1 6,.s),(Oz 33 0 32,.s),(Oq 34 1 false 33,.s),(Om 35 9,.f),(Oa 36 (.iadr 4 (Tm 34) (Tm 35)),.s),(Oz 37 3 36,.s),(Oq 38 1 false 37,.s),(Om 39 1,.f),(Oz 40 1 6,.f),(Oz 41 0 40,.f),(Oq 42 1 false 41,.f),(Om 43 9,.f),(Oa 44 (.iadr 4 (Tm 42) (Tm 43)),.f),(Oz 45 3 44,.f),(Oq 46 1 false 45,.f),(Oa 47 (.call 16 [Tm 39,Tm 46]),.s),(Oa 48 (.fld 2 3 true (Tm 47)),.f),(Oa 49 (.build (.agg [.p (.int .i64 0),.p (.bool false),.tight [],.tight []]) [(0,1,(Tm 38)),(1,3,(Tm 48))]),.f),(Oa 50 (.buildSl 4 95 (.agg [.p (.int .i64 0),.p (.bool false),.tight [],.tight []]) 1 [(0,(Tm 49))]),.f),(Oa 51 (.app 4 64 95 (Tm 31) (Tm 50)),.f),(Om 8 51,.f)])) (.region [Om 29 9,Oa 30 (.bin .add (Tm 29) (Kz 1)),Om 9 30]))))
def lf11_B1 : LCode := .block 0 (.loop (.seq (.seq (.region [Om 10 5,Om 11 0,Oa 12 (.len (Tm 11)),Oa 13 (.bin .lss (Tm 10) (Tm 12))]) (.cond (Tm 13) (.skip) (.exit 0))) (.seq (.block 1 (.seq (.region [Om 16 0,Om 17 5,Oa 18 (.iadr 8 (Tm 16) (Tm 17)),Oz 19 0 18,Oq 20 7 true 19,Oa 6 (.newv 7 78 (.cst Za)),Oy 7 6 20]) (.seq (.region [Oa 7 (.mov Kg)]) (.seq (.seq (.region [Oz 21 0 6,Oq 22 1 false 21]) (.block 2 (.seq (.region [Oa 59 (.bin .eql (Tm 22) (Kz 6)),Om 58 59]) (.cond (Tm 58) (.region [Om 60 1,Oz 61 5 6,Oq 62 1 false 61,Oa 63 (.call 16 [Tm 60,Tm 62]),Oa 64 (.fld 1 1 false (Tm 63)),Om 7 64]) (.seq (.region [Oa 66 (.bin .eql (Tm 22) (Kz 5)),Om 65 66]) (.cond (Tm 65) (.regionD [Om 67 1,Oz 68 5 6,Oq 69 1 false 68,Oa 70 (.call 16 [Tm 67,Tm 69]),Om 71 1,Oz 72 6 6,Oq 73 1 false 72,Oa 74 (.call 16 [Tm 71,Tm 73]),Oa 75 (.call 13 [Tm 70,Tm 74]),Om 7 75]) (.seq (.region [Oa 8 (.mov (.cst (.tight [])))]) (.seq (.seq (.region [Oa 9 (.mov (Kz 0))]) (lf11_B0)) (.region [Oq 53 7 true 6,Om 54 8,Oa 55 (.call 26 [Tm 53,Tm 54]),Om 52 55,Ox 56 52 0,Ox 57 52 1,Om 7 56]))))))))) (.seq (.region [Om 76 7,Om 77 0,Om 78 5,Oa 79 (.iadr 8 (Tm 77) (Tm 78)),Oz 80 7 79,Oq 81 1 false 80,Oa 82 (.eqB true (Tm 76) (Tm 81))]) (.cond (Tm 82) (.seq (.region [Oa 4 (.mov Kt)]) (.ret)) (.skip))))))) (.region [Om 14 5,Oa 15 (.bin .add (Tm 14) (Kz 1)),Om 5 15]))))
def lf11 : LFunc := ⟨83,[.slot 4],.seq (.region [Oa 4 (.mov Kg)]) (.seq (.seq (.region [Oa 5 (.mov (Kz 0))]) (lf11_B1)) (.seq (.region [Oa 4 (.mov Kg)]) (.ret)))⟩
theorem low11 : zf Tryz.prog gl0 11 = some lf11 := Go.Abs.lowF (by kernel_rfl)
def lf16_B0 : LCode := .block 0 (.loop (.seq (.seq (.region [Om 6 5,Om 7 0,Oa 8 (.len (Tm 7)),Oa 9 (.bin .lss (Tm 6) (Tm 8))]) (.cond (Tm 9) (.skip) (.exit 0))) (.seq (.block 1 (.seq (.region [Om 12 0,Om 13 5,Oa 14 (.iadr 7 (Tm 12) (Tm 13)),Oz 15 0 14,Oq 16 1 false 15,Om 17 1,Oa 18 (.bin .eql (Tm 16) (Tm 17))]) (.cond (Tm 18) (.seq (.region [Om 19 0,Om 20 5,Oa 21 (.iadr 7 (Tm 19) (Tm 20)),Oz 22 1 21,Oq 23 6 true 22,Oy 6 4 23]) (.ret)) (.skip)))) (.region [Om 10 5,Oa 11 (.bin .add (Tm 10) (Kz 1)),Om 5 11]))))
def lf16 : LFunc := ⟨25,[.cell 4 6 true],.seq (.region [Oa 4 (.newv 6 35 (.cst (.agg [.p (.int .i64 0),.p (.bool false),.p (.bool false),.tight [],.tight [],.p (.int .i64 0)])))]) (.seq (.seq (.region [Oa 5 (.mov (Kz 0))]) (lf16_B0)) (.seq (.region [Oa 24 (.build (.agg [.p (.int .i64 0),.p (.bool false),.p (.bool false),.tight [],.tight [],.p (.int .i64 0)]) []),Oy 6 4 24]) (.ret)))⟩
theorem low16 : zf Tryz.prog gl0 16 = some lf16 := Go.Abs.lowF (by kernel_rfl)
def lf13 : LFunc := ⟨31,[.slot 4],.seq (.region [Oa 2 (.newv 6 35 (Tm 0)),Oa 3 (.newv 6 35 (Tm 1)),Oa 4 (.mov Kg)]) (.seq (.seq (.region [Oz 5 0 2,Oq 6 1 false 5,Oz 7 0 3,Oq 8 1 false 7,Oa 9 (.bin .neq (Tm 6) (Tm 8))]) (.cond (Tm 9) (.seq (.region [Oa 4 (.mov Kg)]) (.ret)) (.skip))) (.seq (.seq (.region [Oz 10 0 2,Oq 11 1 false 10]) (.block 0 (.seq (.region [Oa 13 (.bin .eql (Tm 11) (Kz 0)),Om 12 13]) (.cond (Tm 12) (.seq (.region [Oz 14 1 2,Oq 15 1 false 14,Oz 16 1 3,Oq 17 1 false 16,Oa 18 (.eqB false (Tm 15) (Tm 17)),Om 4 18]) (.ret)) (.seq (.region [Oa 20 (.bin .eql (Tm 11) (Kz 1)),Om 19 20]) (.cond (Tm 19) (.seq (.region [Oz 21 2 2,Oq 22 3 true 21,Oz 23 2 3,Oq 24 3 true 23,Oa 25 (.call 36 [Tm 22,Tm 24]),Om 4 25]) (.ret)) (.skip))))))) (.seq (.region [Oz 26 5 2,Oq 27 1 false 26,Oz 28 5 3,Oq 29 1 false 28,Oa 30 (.bin .eql (Tm 27) (Tm 29)),Om 4 30]) (.ret))))⟩
theorem low13 : zf Tryz.prog gl0 13 = some lf13 := Go.Abs.lowF (by kernel_rfl)
end Go.Proofs.YtgbjjikaenlkmaaGreat

namespace Go.Abs
def PVal.isAgg : PVal → Bool
 | .agg _ => true
 | _ => false
end Go.Abs
namespace Go.Proofs.YtgbjjikaenlkmaaGreat
open Go Go.Abs Go.RowKit Go.Shelf
attribute [local go_sem] Oper.semAt_some
set_option maxRecDepth 100000 in
set_option maxHeartbeats 2000000 in
theorem bG_walk {α : Type} {encs : α → Array Value} (f : Nat → α) (cv : Nat → Nat → Value) (m l Bs b off len cap : Nat) (pr : Prot) (hlen : len ≤ 1000000000) (hen : ∀ k, k < len → encs (f k) = #[.int .i64 k, .agg #[cv k 0, cv k 1, cv k 2, cv k 3, cv k 4, cv k 5, cv k 6]])
  (hp : pr Bs 0 = some (.slice (some ⟨b, off, none⟩) len cap)) (hv : ∀ k, k < len → ∀ j, j < 7 → pr b (off + k * 7 + j) = some (cv k j)) (J Jx : List α → World → Prop)
  (hY : ∀ pre x W, J pre W → pre.length < len → YieldAt Fence.wide (m - 1) Tryz.prog l (encs x) W fun e W' =>
   (e = .returned (.bool true) ∧ J (pre ++ [x]) W' ∧ KeepsProt pr W W') ∨ (e = .returned (.bool false) ∧ Jx (pre ++ [x]) W'))
  (W : World) (hc : ∀ b o v, pr b o = some v → W.cell? ⟨b, o, none⟩ = some v) (h0 : J [] W) :
  CallsIn Fence.wide m Tryz.prog 80 #[.func (.yield l) #[] #[], .pointer (some ⟨Bs, 0, none⟩)] W fun e W' => (∃ v, e = .returned v) ∧
   ((∃ ys, ys = upto (fun j => f (len - 1 - j)) len ∧ J ys W') ∨ (∃ pre, True ∧ Jx pre W')) := by
 refine callsIn_of_wp Tryz.func80 rfl trivial ?_ rfl
 simp only [Tryz.ntmps80, List.size_toArray, List.length_cons, List.length_nil, Nat.reduceAdd, Nat.reduceSub, Array.replicate_succ, Array.replicate_zero, List.push_toArray, List.append_toArray, List.nil_append, List.cons_append]
 have hw0 : IntKind.i64.wrap ((len : Int) - 1) = (len : Int) - 1 := IntWalk.i64_in _ (by omega)
 have hBs := hc _ _ _ hp
 gi_wp2
 gi_loopw [3] (fun i wr => ∃ j : Nat, j ≤ len ∧ i = .int .i64 ((len : Int) - 1 - j) ∧ J (upto (fun j => f (len - 1 - j)) j) wr ∧ (∀ b o v, pr b o = some v → wr.cell? ⟨b, o, none⟩ = some v))
  (fun i _ => (intOf i + 1).toNat)
 case atStart => exact ⟨0, Nat.zero_le _, by simp, h0, hc⟩
 case round =>
  obtain ⟨j, hj, rfl, hJs, hcs⟩ := hrel
  have hB := hcs _ _ _ hp
  by_cases hlt : j < len
  ·obtain ⟨k, hk⟩ : ∃ k : Nat, len - 1 - j = k := ⟨_, rfl⟩
   have hkI : (len : Int) - 1 - j = (k : Int) := by omega
   rw [hkI]
   obtain ⟨fn, tmps, assign, body, hy, hR⟩ := hY _ (f k) wr hJs (by rw [nE]; exact hlt)
   rw [hen k (by omega)] at hy
   have hc0 := hcs _ _ _ (hv k (by omega) 0 (by decide))
   have hc1 := hcs _ _ _ (hv k (by omega) 1 (by decide))
   have hc2 := hcs _ _ _ (hv k (by omega) 2 (by decide))
   have hc3 := hcs _ _ _ (hv k (by omega) 3 (by decide))
   have hc4 := hcs _ _ _ (hv k (by omega) 4 (by decide))
   have hc5 := hcs _ _ _ (hv k (by omega) 5 (by decide))
   have hc6 := hcs _ _ _ (hv k (by omega) 6 (by decide))
   rw [Nat.add_zero] at hc0
   have hw1 : IntKind.i64.wrap ((k : Int) - 1) = (k : Int) - 1 := IntWalk.i64_in _ (by omega)
   gi_wp2
   refine ⟨fun h => by simp [Fence.wide] at h, hR.mono ?_⟩
   rintro e W3 (⟨rfl, hJ3, hk3⟩ | ⟨rfl, hJx3⟩)
   ·have hc3 : ∀ b o v, pr b o = some v → W3.cell? ⟨b, o, none⟩ = some v := fun b o v h => hk3 _ _ _ h (hcs b o v h)
    gi_wp2
    go_roundw
    case rel => exact ⟨j + 1, by omega, by congr 1; omega, by rw [t5, hk]; exact hJ3, hc3⟩
    case measure => simp [intOf]
   ·gi_wp2
    refine bodyPost_ret (results_none rfl _ _ _) rfl ?_
    exact ⟨⟨_, rfl⟩, .inr ⟨_, trivial, hJx3⟩⟩
  ·obtain rfl : j = len := by omega
   gi_wp2
   go_end0
   exact ⟨⟨_, rfl⟩, .inl ⟨_, rfl, hJs⟩⟩
set_option maxRecDepth 100000 in
theorem iQ {α : Type} (m l Bs cap : Nat) (a : Option Addr) (J : List α → World → Prop) (W : World) (hBs : W.cell? ⟨Bs, 0, none⟩ = some (.slice a 0 cap)) (h0 : J [] W) :
  CallsIn Fence.wide m Tryz.prog 80 #[.func (.yield l) #[] #[], .pointer (some ⟨Bs, 0, none⟩)] W fun e W' => (∃ v, e = .returned v) ∧ J [] W' := by
 refine callsIn_of_wp Tryz.func80 rfl trivial ?_ rfl
 simp only [Tryz.ntmps80, List.size_toArray, List.length_cons, List.length_nil, Nat.reduceAdd, Nat.reduceSub, Array.replicate_succ, Array.replicate_zero, List.push_toArray, List.append_toArray, List.nil_append, List.cons_append]
 have hw0 : IntKind.i64.wrap (-1) = -1 := IntWalk.i64_in _ (by omega)
 gi_wp2
 gi_loopw [3] (fun i wr => i = .int .i64 (-1) ∧ J [] wr) (fun _ _ => 0)
 case atStart => exact ⟨rfl, h0⟩
 case round =>
  obtain ⟨rfl, hJs⟩ := hrel
  gi_wp2
  go_end0
  exact ⟨⟨_, rfl⟩, hJs⟩
theorem bG_stops (m Bs : Nat) (es : List PVal) (hes : ∀ x ∈ es, x.isAgg = true ∧ x.cells.length = 7) (sv : Value) (pr : Prot) (hlen : es.length ≤ 1000000000)
  (hp : pr Bs 0 = some sv) (hsv : PRep pr (.lst es) sv) (w : World) (hw : ∀ b o v, pr b o = some v → w.cell? ⟨b, o, none⟩ = some v ∧ b < w.heap.size) :
  ∃ vals : Nat → Value, (∀ k x, es[k]? = some x → PRep pr x (vals k)) ∧ ∀ {α : Type} {encs : α → Array Value} (f : Nat → α), (∀ k, k < es.length → encs (f k) = #[.int .i64 k, vals k]) →
  SeqStopsK Fence.wide m Tryz.prog 80 #[.pointer (some ⟨Bs, 0, none⟩)] encs (KeepsProt pr) (fun ys => ys = upto (fun j => f (es.length - 1 - j)) es.length) (fun _ => True) es.length w := by
 cases hsv with
 | lst _ a len cap size blk off vals hl hc hm ha hs hpv hr hk =>
  subst hl
  by_cases h0l : es = []
  ·subst h0l
   refine ⟨fun _ => default, fun k x h => by simp at h, fun f hen l J Jx W hW _ _ hY h0 => ?_⟩
   have cell : ∀ b o v, pr b o = some v → W.cell? ⟨b, o, none⟩ = some v := fun b o v h => (hW.cell (p := ⟨b, o, none⟩) (hw b o v h).2).trans (hw b o v h).1
   exact (iQ m l Bs cap a J W (cell _ _ _ hp) h0).mono fun e W' ⟨he, hj⟩ => ⟨he, .inl ⟨_, rfl, hj⟩⟩
  ·rw [ha h0l] at hp
   obtain ⟨x0, r0, hx0⟩ : ∃ x0 r0, es = x0 :: r0 := by cases es with | nil => exact absurd rfl h0l | cons a b => exact ⟨a, b, rfl⟩
   have hsz : size = 7 := by
    have h1 := hs x0 (by rw [hx0]; simp)
    have h2 := (hes x0 (by rw [hx0]; simp)).2
    omega
   subst hsz
   have hrep : ∀ k x, es[k]? = some x → PRep pr x (.agg ((List.range 7).map (vals k)).toArray) := fun k x hx => by
    have hxm := List.mem_of_getElem? hx
    obtain ⟨h1, h2⟩ := hes x hxm
    cases x with
    | agg cs =>
     refine .agg cs _ (by simpa [PVal.cells] using h2.symm) (fun j y v hy hv => ?_) (fun y hy => hk _ hxm y hy)
     have hj : j < 7 := by
      have := (List.getElem?_eq_some_iff.1 hy).1
      simp only [PVal.cells] at h2
      omega
     simp only [List.getElem?_map, List.getElem?_range hj, Option.map_some, Option.some.injEq] at hv
     subst hv
     exact hr k _ j y hx hy
    | _ => simp [PVal.isAgg] at h1
   refine ⟨fun k => .agg ((List.range 7).map (vals k)).toArray, hrep, fun f hen l J Jx W hW _ _ hY h0 => ?_⟩
   have cell : ∀ b o v, pr b o = some v → W.cell? ⟨b, o, none⟩ = some v := fun b o v h => (hW.cell (p := ⟨b, o, none⟩) (hw b o v h).2).trans (hw b o v h).1
   exact bG_walk f vals m l Bs blk off es.length cap pr hlen hen hp (fun k hk j hj => hpv k j hk hj) J Jx hY W cell h0
end Go.Proofs.YtgbjjikaenlkmaaGreat

namespace Go.Proofs.YtgbjjikaenlkmaaGreat
open Go Go.Abs Go.RowKit Go.Shelf
attribute [local go_sem] Oper.semAt_some
set_option maxRecDepth 100000 in
set_option maxHeartbeats 2000000 in
theorem bV_walk {α : Type} {encs : α → Array Value} (f : Nat → α) (cv : Nat → Nat → Value) (m l Bs b off len cap : Nat) (pr : Prot) (hlen : len ≤ 1000000000) (hen : ∀ k, k < len → encs (f k) = #[.int .i64 k, .agg #[cv k 0, cv k 1]])
  (hp : pr Bs 0 = some (.slice (some ⟨b, off, none⟩) len cap)) (hv : ∀ k, k < len → ∀ j, j < 2 → pr b (off + k * 2 + j) = some (cv k j)) (J Jx : List α → World → Prop)
  (hY : ∀ pre x W, J pre W → pre.length < len → YieldAt Fence.wide (m - 1) Tryz.prog l (encs x) W fun e W' =>
   (e = .returned (.bool true) ∧ J (pre ++ [x]) W' ∧ KeepsProt pr W W') ∨ (e = .returned (.bool false) ∧ Jx (pre ++ [x]) W'))
  (W : World) (hc : ∀ b o v, pr b o = some v → W.cell? ⟨b, o, none⟩ = some v) (h0 : J [] W) :
  CallsIn Fence.wide m Tryz.prog 67 #[.func (.yield l) #[] #[], .pointer (some ⟨Bs, 0, none⟩)] W fun e W' => (∃ v, e = .returned v) ∧
   ((∃ ys, ys = upto (fun j => f (len - 1 - j)) len ∧ J ys W') ∨ (∃ pre, True ∧ Jx pre W')) := by
 refine callsIn_of_wp Tryz.func67 rfl trivial ?_ rfl
 simp only [Tryz.ntmps67, List.size_toArray, List.length_cons, List.length_nil, Nat.reduceAdd, Nat.reduceSub, Array.replicate_succ, Array.replicate_zero, List.push_toArray, List.append_toArray, List.nil_append, List.cons_append]
 have hw0 : IntKind.i64.wrap ((len : Int) - 1) = (len : Int) - 1 := IntWalk.i64_in _ (by omega)
 have hBs := hc _ _ _ hp
 gi_wp2
 gi_loopw [3] (fun i wr => ∃ j : Nat, j ≤ len ∧ i = .int .i64 ((len : Int) - 1 - j) ∧ J (upto (fun j => f (len - 1 - j)) j) wr ∧ (∀ b o v, pr b o = some v → wr.cell? ⟨b, o, none⟩ = some v))
  (fun i _ => (intOf i + 1).toNat)
 case atStart => exact ⟨0, Nat.zero_le _, by simp, h0, hc⟩
 case round =>
  obtain ⟨j, hj, rfl, hJs, hcs⟩ := hrel
  have hB := hcs _ _ _ hp
  by_cases hlt : j < len
  ·obtain ⟨k, hk⟩ : ∃ k : Nat, len - 1 - j = k := ⟨_, rfl⟩
   have hkI : (len : Int) - 1 - j = (k : Int) := by omega
   rw [hkI]
   obtain ⟨fn, tmps, assign, body, hy, hR⟩ := hY _ (f k) wr hJs (by rw [nE]; exact hlt)
   rw [hen k (by omega)] at hy
   have hc0 := hcs _ _ _ (hv k (by omega) 0 (by decide))
   have hc1 := hcs _ _ _ (hv k (by omega) 1 (by decide))
   rw [Nat.add_zero] at hc0
   have hw1 : IntKind.i64.wrap ((k : Int) - 1) = (k : Int) - 1 := IntWalk.i64_in _ (by omega)
   gi_wp2
   refine ⟨fun h => by simp [Fence.wide] at h, hR.mono ?_⟩
   rintro e W3 (⟨rfl, hJ3, hk3⟩ | ⟨rfl, hJx3⟩)
   ·have hc3 : ∀ b o v, pr b o = some v → W3.cell? ⟨b, o, none⟩ = some v := fun b o v h => hk3 _ _ _ h (hcs b o v h)
    gi_wp2
    go_roundw
    case rel => exact ⟨j + 1, by omega, by congr 1; omega, by rw [t5, hk]; exact hJ3, hc3⟩
    case measure => simp [intOf]
   ·gi_wp2
    refine bodyPost_ret (results_none rfl _ _ _) rfl ?_
    exact ⟨⟨_, rfl⟩, .inr ⟨_, trivial, hJx3⟩⟩
  ·obtain rfl : j = len := by omega
   gi_wp2
   go_end0
   exact ⟨⟨_, rfl⟩, .inl ⟨_, rfl, hJs⟩⟩
set_option maxRecDepth 100000 in
theorem iO {α : Type} (m l Bs cap : Nat) (a : Option Addr) (J : List α → World → Prop) (W : World) (hBs : W.cell? ⟨Bs, 0, none⟩ = some (.slice a 0 cap)) (h0 : J [] W) :
  CallsIn Fence.wide m Tryz.prog 67 #[.func (.yield l) #[] #[], .pointer (some ⟨Bs, 0, none⟩)] W fun e W' => (∃ v, e = .returned v) ∧ J [] W' := by
 refine callsIn_of_wp Tryz.func67 rfl trivial ?_ rfl
 simp only [Tryz.ntmps67, List.size_toArray, List.length_cons, List.length_nil, Nat.reduceAdd, Nat.reduceSub, Array.replicate_succ, Array.replicate_zero, List.push_toArray, List.append_toArray, List.nil_append, List.cons_append]
 have hw0 : IntKind.i64.wrap (-1) = -1 := IntWalk.i64_in _ (by omega)
 gi_wp2
 gi_loopw [3] (fun i wr => i = .int .i64 (-1) ∧ J [] wr) (fun _ _ => 0)
 case atStart => exact ⟨rfl, h0⟩
 case round =>
  obtain ⟨rfl, hJs⟩ := hrel
  gi_wp2
  go_end0
  exact ⟨⟨_, rfl⟩, hJs⟩
theorem bV_stops (m Bs : Nat) (es : List PVal) (hes : ∀ x ∈ es, x.isAgg = true ∧ x.cells.length = 2) (sv : Value) (pr : Prot) (hlen : es.length ≤ 1000000000)
  (hp : pr Bs 0 = some sv) (hsv : PRep pr (.lst es) sv) (w : World) (hw : ∀ b o v, pr b o = some v → w.cell? ⟨b, o, none⟩ = some v ∧ b < w.heap.size) :
  ∃ vals : Nat → Value, (∀ k x, es[k]? = some x → PRep pr x (vals k)) ∧ ∀ {α : Type} {encs : α → Array Value} (f : Nat → α), (∀ k, k < es.length → encs (f k) = #[.int .i64 k, vals k]) →
  SeqStopsK Fence.wide m Tryz.prog 67 #[.pointer (some ⟨Bs, 0, none⟩)] encs (KeepsProt pr) (fun ys => ys = upto (fun j => f (es.length - 1 - j)) es.length) (fun _ => True) es.length w := by
 cases hsv with
 | lst _ a len cap size blk off vals hl hc hm ha hs hpv hr hk =>
  subst hl
  by_cases h0l : es = []
  ·subst h0l
   refine ⟨fun _ => default, fun k x h => by simp at h, fun f hen l J Jx W hW _ _ hY h0 => ?_⟩
   have cell : ∀ b o v, pr b o = some v → W.cell? ⟨b, o, none⟩ = some v := fun b o v h => (hW.cell (p := ⟨b, o, none⟩) (hw b o v h).2).trans (hw b o v h).1
   exact (iO m l Bs cap a J W (cell _ _ _ hp) h0).mono fun e W' ⟨he, hj⟩ => ⟨he, .inl ⟨_, rfl, hj⟩⟩
  ·rw [ha h0l] at hp
   obtain ⟨x0, r0, hx0⟩ : ∃ x0 r0, es = x0 :: r0 := by cases es with | nil => exact absurd rfl h0l | cons a b => exact ⟨a, b, rfl⟩
   have hsz : size = 2 := by
    have h1 := hs x0 (by rw [hx0]; simp)
    have h2 := (hes x0 (by rw [hx0]; simp)).2
    omega
   subst hsz
   have hrep : ∀ k x, es[k]? = some x → PRep pr x (.agg ((List.range 2).map (vals k)).toArray) := fun k x hx => by
    have hxm := List.mem_of_getElem? hx
    obtain ⟨h1, h2⟩ := hes x hxm
    cases x with
    | agg cs =>
     refine .agg cs _ (by simpa [PVal.cells] using h2.symm) (fun j y v hy hv => ?_) (fun y hy => hk _ hxm y hy)
     have hj : j < 2 := by
      have := (List.getElem?_eq_some_iff.1 hy).1
      simp only [PVal.cells] at h2
      omega
     simp only [List.getElem?_map, List.getElem?_range hj, Option.map_some, Option.some.injEq] at hv
     subst hv
     exact hr k _ j y hx hy
    | _ => simp [PVal.isAgg] at h1
   refine ⟨fun k => .agg ((List.range 2).map (vals k)).toArray, hrep, fun f hen l J Jx W hW _ _ hY h0 => ?_⟩
   have cell : ∀ b o v, pr b o = some v → W.cell? ⟨b, o, none⟩ = some v := fun b o v h => (hW.cell (p := ⟨b, o, none⟩) (hw b o v h).2).trans (hw b o v h).1
   exact bV_walk f vals m l Bs blk off es.length cap pr hlen hen hp (fun k hk j hj => hpv k j hk hj) J Jx hY W cell h0
end Go.Proofs.YtgbjjikaenlkmaaGreat

namespace Go.Proofs.YtgbjjikaenlkmaaGreat
open Go Go.Abs Go.Limbs
set_option maxRecDepth 20000
structure Cd (α : Type) where
 enc : α → PVal
 dec : PVal → Option α
 wf : α → Prop
 de : ∀ x, wf x → dec (enc x) = some x
 ed : ∀ v x, dec v = some x → v = enc x ∧ wf x
def j0 {α : Type} (d : PVal → Option α) : List PVal → Option (List α)
 | [] => some []
 | v :: r => match d v with
  | some x => match j0 d r with
   | some l => some (x :: l)
   | none => none
  | none => none
def Cd.wfL {α : Type} (A : Cd α) (l : List α) : Prop := ∀ x ∈ l, A.wf x
theorem Cd.deL {α : Type} (A : Cd α) : ∀ l : List α, A.wfL l → j0 A.dec (l.map A.enc) = some l
 | [], _ => rfl
 | x :: r, h => by simp only [List.map_cons, j0, A.de x (h x (by simp)), A.deL r (fun y hy => h y (by simp [hy]))]
theorem Cd.edL {α : Type} (A : Cd α) : ∀ (vs : List PVal) (l : List α), j0 A.dec vs = some l → vs = l.map A.enc ∧ A.wfL l
 | [], l, h => by cases h; exact ⟨rfl, fun x hx => by cases hx⟩
 | v :: r, l, h => by
  unfold j0 at h
  split at h
  ·rename_i x hx
   split at h
   ·rename_i m hm
    cases h
    obtain ⟨rfl, wx⟩ := A.ed v x hx
    obtain ⟨rfl, wm⟩ := A.edL r m hm
    refine ⟨rfl, fun y hy => ?_⟩
    rcases List.mem_cons.1 hy with rfl | hy
    ·exact wx
    ·exact wm y hy
   ·cases h
  ·cases h
def Cd.lst {α : Type} (A : Cd α) : Cd (List α) where
 enc l := .lst (l.map A.enc)
 dec v := match v with | .lst vs => j0 A.dec vs | _ => none
 wf := A.wfL
 de l h := A.deL l h
 ed v l h := by
  split at h
  ·obtain ⟨rfl, w⟩ := A.edL _ _ h; exact ⟨rfl, w⟩
  ·cases h
def cI : Cd Int where
 enc n := .int .i64 n
 dec v := match v with | .int .i64 n => some n | _ => none
 wf _ := True
 de _ _ := rfl
 ed v x h := by
  split at h
  ·cases h; exact ⟨rfl, trivial⟩
  ·cases h
structure Va where
 k : Int
 b : Bool
 x : Fr
 el : Int
 deriving DecidableEq
def Va.cells (v : Va) : List PVal := [.int .i64 v.k, .bool v.b, .bool v.x.s, .lst (v.x.n.map u64), .lst (v.x.d.map u64), .int .i64 v.el]
def Va.enc (v : Va) : PVal := .agg v.cells
def pq : List PVal → Option Va
 | [.int .i64 k, .bool b, .bool s, .lst xs, .lst ys, .int .i64 e] => match jJ xs, jJ ys with | some l, some m => some ⟨k, b, ⟨s, l, m⟩, e⟩ | _, _ => none
 | _ => none
theorem uW {v : Va} (h : v.x.wf) : pq v.cells = some v := by simp only [pq, Va.cells, zX h.1, zX h.2]
theorem bg {l : List PVal} {v : Va} (h : pq l = some v) : l = v.cells ∧ v.x.wf := by
 unfold pq at h
 split at h
 ·split at h
  ·rename_i hl hm
   cases h
   obtain ⟨rfl, wl⟩ := zI hl
   obtain ⟨rfl, wm⟩ := zI hm
   exact ⟨rfl, wl, wm⟩
  ·cases h
 ·cases h
def cVa : Cd Va where
 enc := Va.enc
 dec v := match v with | .agg l => pq l | _ => none
 wf v := v.x.wf
 de v h := uW h
 ed v x h := by
  split at h
  ·obtain ⟨rfl, w⟩ := bg h; exact ⟨rfl, w⟩
  ·cases h
structure Gv where
 id : Int
 v : Va
def cGv : Cd Gv where
 enc g := .agg (.int .i64 g.id :: g.v.cells)
 dec v := match v with | .agg (.int .i64 n :: l) => (match pq l with | some v => some ⟨n, v⟩ | none => none) | _ => none
 wf g := g.v.x.wf
 de g h := by simp only [uW h]
 ed v x h := by
  split at h
  ·split at h
   ·rename_i hv
    cases h
    obtain ⟨rfl, w⟩ := bg hv
    exact ⟨rfl, w⟩
   ·cases h
  ·cases h
structure Md where
 id : Int
 f : List UInt8
 ag : List Int
def cMd : Cd Md where
 enc m := .agg [.int .i64 m.id, .str m.f, .lst (m.ag.map cI.enc)]
 dec v := match v with | .agg [.int .i64 n, .str s, .lst l] => (match j0 cI.dec l with | some a => some ⟨n, s, a⟩ | none => none) | _ => none
 wf _ := True
 de m _ := by simp only [cI.deL m.ag (fun _ _ => trivial)]
 ed v x h := by
  split at h
  ·split at h
   ·rename_i hv
    cases h
    obtain ⟨rfl, w⟩ := cI.edL _ _ hv
    exact ⟨rfl, trivial⟩
   ·cases h
  ·cases h
structure Vr where
 id : Int
 k : Int
def cVr : Cd Vr where
 enc g := .agg [.int .i64 g.id, .int .i64 g.k]
 dec v := match v with | .agg [.int .i64 n, .int .i64 k] => some ⟨n, k⟩ | _ => none
 wf _ := True
 de _ _ := rfl
 ed v x h := by
  split at h
  ·cases h; exact ⟨rfl, trivial⟩
  ·cases h
structure Li where
 a : At
 no : Bool
def At.cells (x : At) : List PVal := [.int .i64 x.k, .lst (x.p.ps.map Pa.enc), .bool x.p.c.s, .lst (x.p.c.n.map u64), .lst (x.p.c.d.map u64), .int .i64 x.a, .int .i64 x.b]
def cLi : Cd Li where
 enc l := .agg (l.a.cells ++ [.bool l.no])
 dec v := match v with
  | .agg [.int .i64 k, .lst vs, .bool s, .lst xs, .lst ys, .int .i64 a, .int .i64 b, .bool no] => (match ma (.agg [.int .i64 k, .lst vs, .bool s, .lst xs, .lst ys, .int .i64 a, .int .i64 b]) with | some x => some ⟨x, no⟩ | none => none)
  | _ => none
 wf l := l.a.p.wf
 de l h := by
  have := nk h
  unfold At.enc at this
  simp only [At.cells, List.cons_append, List.nil_append, this]
 ed v x h := by
  split at h
  ·split at h
   ·rename_i hv
    cases h
    obtain ⟨e, w⟩ := dT hv
    unfold At.enc at e
    cases e
    exact ⟨rfl, w⟩
   ·cases h
  ·cases h
structure Rw where
 ag : List Va
 v : Va
def cRw : Cd Rw where
 enc r := .agg (.lst (r.ag.map Va.enc) :: r.v.cells)
 dec v := match v with | .agg (.lst l :: c) => (match j0 cVa.dec l with | some a => (match pq c with | some v => some ⟨a, v⟩ | none => none) | none => none) | _ => none
 wf r := cVa.wfL r.ag ∧ r.v.x.wf
 de r h := by
  have := cVa.deL r.ag h.1
  simp only [cVa] at this
  simp only [cVa, this, uW h.2]
 ed v x h := by
  split at h
  ·split at h
   ·rename_i ha
    split at h
    ·rename_i hv
     cases h
     obtain ⟨rfl, w⟩ := cVa.edL _ _ ha
     obtain ⟨rfl, w'⟩ := bg hv
     exact ⟨rfl, w, w'⟩
    ·cases h
   ·cases h
  ·cases h
structure Tb where
 f : List UInt8
 rows : List Rw
 els : Va
def cTb : Cd Tb where
 enc t := .agg (.str t.f :: .lst (t.rows.map cRw.enc) :: t.els.cells)
 dec v := match v with | .agg (.str f :: .lst l :: c) => (match j0 cRw.dec l with | some a => (match pq c with | some v => some ⟨f, a, v⟩ | none => none) | none => none) | _ => none
 wf t := cRw.wfL t.rows ∧ t.els.x.wf
 de t h := by simp only [cRw.deL t.rows h.1, uW h.2]
 ed v x h := by
  split at h
  ·split at h
   ·rename_i ha
    split at h
    ·rename_i hv
     cases h
     obtain ⟨rfl, w⟩ := cRw.edL _ _ ha
     obtain ⟨rfl, w'⟩ := bg hv
     exact ⟨rfl, w, w'⟩
    ·cases h
   ·cases h
  ·cases h
def cPr : Cd (Int × Int) where
 enc p := .agg [.int .i64 p.1, .int .i64 p.2]
 dec v := match v with | .agg [.int .i64 a, .int .i64 b] => some (a, b) | _ => none
 wf _ := True
 de _ _ := rfl
 ed v x h := by
  split at h
  ·cases h; exact ⟨rfl, trivial⟩
  ·cases h
def sp1 {α : Type} (A : Cd α) (g : α → Option PVal) : List PVal → Option PVal
 | [a] => match A.dec a with | some x => g x | none => none
 | _ => none
def sp2 {α β : Type} (A : Cd α) (B : Cd β) (g : α → β → Option PVal) : List PVal → Option PVal
 | [a, b] => match A.dec a with | some x => (match B.dec b with | some y => g x y | none => none) | none => none
 | _ => none
def sp3 {α β γ : Type} (A : Cd α) (B : Cd β) (C : Cd γ) (g : α → β → γ → Option PVal) : List PVal → Option PVal
 | [a, b, c] => match A.dec a with | some x => (match B.dec b with | some y => (match C.dec c with | some z => g x y z | none => none) | none => none) | none => none
 | _ => none
theorem mH {α : Type} {A : Cd α} {g : α → Option PVal} {x : α} (h : A.wf x) : sp1 A g [A.enc x] = g x := by simp only [sp1, A.de x h]
theorem vD {α β : Type} {A : Cd α} {B : Cd β} {g : α → β → Option PVal} {x : α} {y : β} (h : A.wf x) (k : B.wf y) : sp2 A B g [A.enc x, B.enc y] = g x y := by simp only [sp2, A.de x h, B.de y k]
theorem fh {α β γ : Type} {A : Cd α} {B : Cd β} {C : Cd γ} {g : α → β → γ → Option PVal} {x : α} {y : β} {z : γ} (h : A.wf x) (k : B.wf y) (m : C.wf z) : sp3 A B C g [A.enc x, B.enc y, C.enc z] = g x y z := by simp only [sp3, A.de x h, B.de y k, C.de z m]
theorem yg {α : Type} {A : Cd α} {g : α → Option PVal} {args : List PVal} {r : PVal} (h : sp1 A g args = some r) : ∃ x, A.wf x ∧ args = [A.enc x] ∧ g x = some r := by
 unfold sp1 at h
 split at h
 ·split at h
  ·rename_i x hx
   obtain ⟨rfl, w⟩ := A.ed _ _ hx
   exact ⟨x, w, rfl, h⟩
  ·cases h
 ·cases h
theorem kA {α β : Type} {A : Cd α} {B : Cd β} {g : α → β → Option PVal} {args : List PVal} {r : PVal} (h : sp2 A B g args = some r) : ∃ x y, A.wf x ∧ B.wf y ∧ args = [A.enc x, B.enc y] ∧ g x y = some r := by
 unfold sp2 at h
 split at h
 ·split at h
  ·rename_i x hx
   split at h
   ·rename_i y hy
    obtain ⟨rfl, w⟩ := A.ed _ _ hx
    obtain ⟨rfl, w'⟩ := B.ed _ _ hy
    exact ⟨x, y, w, w', rfl, h⟩
   ·cases h
  ·cases h
 ·cases h
theorem gn {α β γ : Type} {A : Cd α} {B : Cd β} {C : Cd γ} {g : α → β → γ → Option PVal} {args : List PVal} {r : PVal} (h : sp3 A B C g args = some r) : ∃ x y z, A.wf x ∧ B.wf y ∧ C.wf z ∧ args = [A.enc x, B.enc y, C.enc z] ∧ g x y z = some r := by
 unfold sp3 at h
 split at h
 ·split at h
  ·rename_i x hx
   split at h
   ·rename_i y hy
    split at h
    ·rename_i z hz
     obtain ⟨rfl, w⟩ := A.ed _ _ hx
     obtain ⟨rfl, w'⟩ := B.ed _ _ hy
     obtain ⟨rfl, w''⟩ := C.ed _ _ hz
     exact ⟨x, y, z, w, w', w'', rfl, h⟩
    ·cases h
   ·cases h
  ·cases h
 ·cases h
def kW (l : List (Int × PVal)) : List AVal := l.foldr (fun p m => wU p.1 p.2 m) []
def lookP (n : Int) : List (Int × PVal) → Option PVal
 | [] => none
 | p :: r => if p.1 = n then some p.2 else lookP n r
theorem dK (n m : Int) (y : PVal) : ∀ l : List AVal, (∀ x ∈ l, ∃ k z, x = qh k z) → wJ n (wU m y l) = if m = n then some y else wJ n l
 | [], _ => by
  by_cases h : m = n
  ·subst h; simp [wU, qh, wJ]
  ·have h' : ¬ n = m := fun e => h e.symm
   simp [wU, qh, wJ, h, h']
 | x :: r, h => by
  obtain ⟨k, z, rfl⟩ := h x (by simp)
  have ih := dK n m y r (fun x hx => h x (by simp [hx]))
  by_cases hk : m = k
  ·subst hk
   by_cases hn : m = n
   ·subst hn; simp [wU, qh, wJ]
   ·have hn' : ¬ n = m := fun e => hn e.symm
    simp [wU, qh, wJ, hn, hn']
  ·by_cases hn : n = k
   ·subst hn
    simp [wU, qh, wJ, hk]
   ·simp [wU, qh, wJ, hk, hn, ih]
theorem uC (m : Int) (y : PVal) : ∀ l : List AVal, (∀ x ∈ l, ∃ k z, x = qh k z) → ∀ x ∈ wU m y l, ∃ k z, x = qh k z
 | [], _, x, hx => by simp [wU] at hx; exact ⟨m, y, hx⟩
 | a :: r, h, x, hx => by
  obtain ⟨k, z, rfl⟩ := h a (by simp)
  by_cases hk : m = k
  ·subst hk
   simp [wU, qh] at hx
   rcases hx with hx | hx
   ·exact ⟨m, y, hx⟩
   ·exact h x (by simp [hx])
  ·simp [wU, qh, hk] at hx
   rcases hx with hx | hx
   ·exact ⟨k, z, hx⟩
   ·exact uC m y r (fun x hx => h x (by simp [hx])) x hx
theorem uk : ∀ (l : List (Int × PVal)), ∀ x ∈ kW l, ∃ k z, x = qh k z
 | [], x, hx => by simp [kW] at hx
 | p :: r, x, hx => uC p.1 p.2 (kW r) (uk r) x hx
theorem sH (n : Int) : ∀ l : List (Int × PVal), wJ n (kW l) = lookP n l
 | [] => rfl
 | p :: r => by
  have : kW (p :: r) = wU p.1 p.2 (kW r) := rfl
  rw [this, dK n p.1 p.2 _ (uk r), sH n r]
  rfl
end Go.Proofs.YtgbjjikaenlkmaaGreat
