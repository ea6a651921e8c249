/-
  What the reference's numbers and their texts compute, part 2. No conditions beyond the lemmas' own hypotheses.
-/
import Derived.Test.YtcbagnlidecmkaaGreatDoorNatC
import Derived.Test.YtcbagnlidecmkaaGreatDoorNatL
import Derived.Test.YtcbagnlidecmkaaGreatDoorNatA
set_option linter.unusedSimpArgs false
set_option linter.unnecessarySimpa false
set_option linter.unusedVariables false
set_option linter.constructorNameAsVariable false

/-
 whole: calls at numbers; law2's awake.
-/
namespace Go.Proofs.YtcbagnlidecmkaaGreatDoor.Nn
open Go Go.Abs Go.Limbs
variable {base : Prot}
set_option maxRecDepth 20000
attribute [local irreducible] vc
attribute [local simp] pureS touchV freezeL fuel shiftV u64 au
end Go.Proofs.YtcbagnlidecmkaaGreatDoor.Nn

/-
 The reference: rows of limbs without zeros at the end, their order, what is a number, sizes.
-/
namespace Go.Proofs.YtcbagnlidecmkaaGreatDoor.Nn
open Go Go.Abs Go.Limbs
variable {base : Prot}
set_option maxRecDepth 20000
attribute [local irreducible] vc
attribute [local simp] pureS touchV freezeL fuel shiftV u64 au
theorem au_comp : AVal.p ∘ u64 = au := rfl
theorem au_cells (ys : List Nat) : (ys.map au).all (fun y => y.cells.length == 1 && y.cells.all AVal.isCell) = true := by
 rw [List.all_eq_true]
 intro x hx
 obtain ⟨y, _, rfl⟩ := List.mem_map.1 hx
 rfl
theorem app_num {H : Heap} {k ver : Nat} {out ys : List Nat} (hk : H[k]? = some (rowE ver out)) (hn : out.length + ys.length ≤ 1000000) :
  appV 1 8 79 (.own k 0 out.length ver) (ys.map au) H = some (.own k 0 (out.length + ys.length) (ver + 1), H.set k (rowE (ver + 1) (out ++ ys))) := by
 have hm : maxLen = 9223372036854775807 := rfl
 unfold appV
 rw [if_pos ⟨au_cells ys, by decide⟩]
 simp only
 rw [hk]
 simp only [rowE]
 rw [if_pos (by simp; omega)]
 simp
theorem rtrim_ok : FnOk Tryz.prog base 41 (pureS sTrim) := by
 refine pure_of_vc hmix Tab.none_ok globNone low41 fun args z hs hf => ?_
 unfold sTrim at hs
 split at hs
 case h_2 => cases hs
 rename_i es
 split at hs
 case h_2 => cases hs
 rename_i l hd
 split at hs
 case isFalse => cases hs
 rename_i hl
 obtain ⟨rfl, hw⟩ := decU_some hd
 cases hs
 refine ⟨by simp [lf41], ?_⟩
 simp [lf41]
 simp only [lf41_B0, vc_block]
 refine loop_ind (fun fr H => ∃ n : Nat, H = [] ∧ n ≤ l.length ∧ val (l.take n) = val l ∧ fr 0 = .p (.lst (l.map u64)) ∧ fr 3 = .p (.int .i64 n)) (fun fr _ => ivar (fr 3)) ⟨l.length, rfl, by omega, by simp, by simp, by simp⟩ ?_
 rintro fr H ⟨n, rfl, hn, hv, h0, h3⟩
 have hcap := mul_capI n (by omega)
 have hnI : (n : Int) ≤ l.length := by omega
 by_cases h : 0 < n
 ·have hI : (0 : Int) < n := by omega
  obtain ⟨x, hx⟩ : ∃ x, l[n - 1]? = some x := ⟨_, List.getElem?_eq_getElem (by omega)⟩
  obtain ⟨n1, hn1⟩ : ∃ t, t = n - 1 := ⟨_, rfl⟩
  rw [← hn1] at hx
  have hw1 : IntKind.i64.wrap ((n : Int) - 1) = (n1 : Int) := by rw [IntWalk.i64_in _ (by omega)]; omega
  have hlt : n1 < l.length := by omega
  by_cases hz : x = 0
  ·subst hz
   simp [h0, h3, hI, h, hw1, hx, getE hx, ivar]
   refine ⟨⟨n1, by omega, ?_, rfl⟩, by omega⟩
   have := trim_step (a := l) (n := n1) hx
   rw [show n1 + 1 = n by omega] at this
   rw [← this, hv]
  ·have hb : ((x : Int) == 0) = false := beq_false_of_ne (by omega)
   have hres : numP (val l) = .lst ((l.take n).map u64) := by
    rw [trim_done (a := l) (n := n) hw hv (.inr ⟨x, by rw [← hn1]; exact hx, hz⟩)]; rfl
   have hln : (l.take n).length = n := by rw [List.length_take]; omega
   have happ := app_num (H := [rowE 0 []]) (k := 0) (ver := 0) (out := []) (ys := l.take n) rfl (by simp; omega)
   rw [hln] at happ
   simp only [List.map_take, List.length_nil, Nat.zero_add, List.nil_append, List.set_cons_zero] at happ
   simp [rowE, au_comp, -appV] at happ
   simp [h0, h3, hI, h, hw1, hx, getE hx, hb, hres, hcap, hnI, fillS, mapO_au, touch_au, au_comp, happ, -appV]
   refine ⟨by rw [Nat.min_eq_left hn]; exact Nat.le_refl _, ?_⟩
   rw [List.take_take, Nat.min_self, mapO_au_take]
 ·have hn0 : n = 0 := by omega
  subst hn0
  have hz : val l = 0 := by rw [← hv]; rfl
  simp [h0, h3, hz, numP, lstP, limbs_zero, fillS]
theorem rvalid_ok : FnOk Tryz.prog base 62 (pureS sValid) := by
 refine pure_of_vc hmix Tab.none_ok globNone low62 fun args z hs hf => ?_
 unfold sValid at hs
 split at hs
 case h_2 => cases hs
 rename_i es
 split at hs
 case h_2 => cases hs
 rename_i l hd
 obtain ⟨rfl, hw⟩ := decU_some hd
 cases hs
 refine ⟨by simp [lf62], ?_⟩
 have hc := canon_last hw
 by_cases h1 : (l.length : Int) ≤ 64
 ·have h1' : l.length ≤ 64 := by omega
  by_cases h0 : l.length = 0
  ·have : l = [] := List.length_eq_zero_iff.1 h0
   subst this
   simp [lf62, val_nil, limbs_zero]
  ·have hw1 := wrap_pred (i := l.length) (by omega) (by omega)
   obtain ⟨x, hx⟩ : ∃ x, l[l.length - 1]? = some x := ⟨_, List.getElem?_eq_getElem (by omega)⟩
   have hb2 : ((l.length : Int) == 0) = false := beq_false_of_ne (by omega)
   have hlast : l.getLast? = some x := by rw [List.getLast?_eq_getElem?]; exact hx
   rw [hlast] at hc
   by_cases hz : x = 0
   ·subst hz
    have hne : ¬ limbs (val l) = l := fun e => hc.1 e rfl
    have hb : ((0 : Int) != 0) = false := rfl
    simp [lf62, h1, h1', hw1, hx, hb, hb2, hne]
   ·have hb : ((x : Int) != 0) = true := by simp; omega
    have heq : limbs (val l) = l := hc.2 (fun e => hz (by simpa using e))
    simp [lf62, h1, h1', hw1, hx, hb, hb2, heq]
 ·have h1' : ¬ l.length ≤ 64 := by omega
  simp [lf62, h1, h1']
end Go.Proofs.YtcbagnlidecmkaaGreatDoor.Nn

/-
 The reference: sums and differences.
-/
namespace Go.Proofs.YtcbagnlidecmkaaGreatDoor.Nn
open Go Go.Abs Go.Limbs
variable {base : Prot}
set_option maxRecDepth 20000
attribute [local irreducible] vc
attribute [local simp] pureS touchV freezeL fuel shiftV u64 au
def IsRow (H : Heap) (x : AVal) (l : List Nat) : Prop := (l = [] ∧ x = .tight []) ∨ ∃ j ver, x = .own j 0 l.length ver ∧ H[j]? = some (rowE ver l)
theorem IsRow.own {H : Heap} {j ver : Nat} {l : List Nat} (h : H[j]? = some (rowE ver l)) : IsRow H (.own j 0 l.length ver) l := .inr ⟨j, ver, rfl, h⟩
def Trs : Tab := Tab.none.with 41 (pureS sTrim)
theorem Trs_ok : TabOk Tryz.prog base Trs := Tab.with_ok Tab.none_ok rtrim_ok
end Go.Proofs.YtcbagnlidecmkaaGreatDoor.Nn

/-
 The reference: products.
-/
namespace Go.Proofs.YtcbagnlidecmkaaGreatDoor.Nn
open Go Go.Abs Go.Limbs
variable {base : Prot}
set_option maxRecDepth 20000
attribute [local irreducible] vc
attribute [local simp] pureS touchV freezeL fuel shiftV u64 au
end Go.Proofs.YtcbagnlidecmkaaGreatDoor.Nn

/-
 The reference's answers for sums, differences, products and the order.
-/
namespace Go.Proofs.YtcbagnlidecmkaaGreatDoor.Nn
open Go Go.Abs Go.Limbs
variable {base : Prot}
set_option maxRecDepth 20000
attribute [local irreducible] vc
attribute [local simp] pureS touchV freezeL fuel shiftV u64 au
end Go.Proofs.YtcbagnlidecmkaaGreatDoor.Nn

/-
 The reference's whole numbers.
-/
namespace Go.Proofs.YtcbagnlidecmkaaGreatDoor.Nn
open Go Go.Abs Go.Limbs
variable {base : Prot}
set_option maxRecDepth 20000
attribute [local irreducible] vc
attribute [local simp] pureS touchV freezeL fuel shiftV u64 au
def Rv : Tab := Tab.none.with 62 (pureS sValid)
theorem Rv_ok : TabOk Tryz.prog base Rv := Tab.with_ok Tab.none_ok rvalid_ok
theorem Rv_mu (f : FuncId) (a : List AVal) (H : Heap) : Rv.mu f a H = none := (rfl)
theorem Rv_fn : Rv.fn 62 = pureS sValid := (rfl)
theorem rivalid_ok : FnOk Tryz.prog base 38 (pureS sIV) := by
 refine pure_of_vc hmix Rv_ok globNone low38 fun args z hs hf => ?_
 unfold sIV at hs
 split at hs
 case h_2 => cases hs
 rename_i s xs
 split at hs
 case h_2 => cases hs
 rename_i l hd
 obtain ⟨rfl, wl⟩ := decU_some hd
 cases hs
 refine ⟨by simp [lf38], ?_⟩
 have hv := sValid_list wl
 unfold okI
 cases ho : okL l with
 | false => rw [ho] at hv; simp [lf38, hv, Rv_mu, Rv_fn]
 | true =>
  rw [ho] at hv
  cases s with
  | false => simp [lf38, hv, Rv_mu, Rv_fn]
  | true => simp [lf38, hv, Rv_mu, Rv_fn]
theorem riwide_ok : FnOk Tryz.prog base 40 (pureS sWide) := by
 refine pure_of_vc hmix Tab.none_ok globNone low40 fun args z hs hf => ?_
 unfold sWide at hs
 split at hs
 case h_2 => cases hs
 rename_i s xs
 split at hs
 case h_2 => cases hs
 rename_i l hd
 obtain ⟨rfl, wl⟩ := decU_some hd
 cases hs
 refine ⟨by simp [lf40], ?_⟩
 cases s with
 | false => simp [lf40, iP, fillS]
 | true => simp [lf40, iP, fillS]
def Rof : Tab := (Tab.none.with 41 (pureS sTrim)).with 40 (pureS sWide)
theorem Rof_ok : TabOk Tryz.prog base Rof := Tab.with_ok (Tab.with_ok Tab.none_ok rtrim_ok) riwide_ok
theorem Rof_mu (f : FuncId) (a : List AVal) (H : Heap) : Rof.mu f a H = none := (rfl)
theorem Rof_fns : Rof.fn 41 = pureS sTrim ∧ Rof.fn 40 = pureS sWide := ⟨rfl, rfl⟩
theorem riof_ok : FnOk Tryz.prog base 19 (pureS sIOf) := by
 refine pure_of_vc hmix Rof_ok globNone low19 fun args z hs hf => ?_
 unfold sIOf at hs
 split at hs
 case h_2 => cases hs
 rename_i n
 split at hs
 case isFalse => cases hs
 rename_i hc
 cases hs
 refine ⟨by simp [lf19], ?_⟩
 obtain ⟨m, hm⟩ : ∃ m, m = n.natAbs := ⟨_, rfl⟩
 have hmB : m < B := by rw [B_lit]; omega
 have ht := sTrim_map (l := [m]) (Wf.cons hmB Wf.nil) (by simp)
 rw [show val [m] = m from by simp [val]] at ht
 simp only [List.map_cons, List.map_nil, u64] at ht
 obtain ⟨b1, l1, hbl1, wl1, hW⟩ := sWide_num (decide (n < 0)) m
 rw [hm, zOf_sign] at hbl1
 rw [hbl1]
 by_cases h0 : n < 0
 ·have w1 : IntKind.u64.wrap n = n + 18446744073709551616 := by rw [IntKind.wrap_u64]; omega
  have w2 : IntKind.u64.wrap (-(n + 18446744073709551616)) = (m : Int) := by rw [IntKind.wrap_u64]; omega
  simp only [h0, decide_true] at hW
  simp [lf19, h0, w1, w2, ht, hW, iP, fillS, freeze1, Rof_mu, Rof_fns]
 ·have w1 : IntKind.u64.wrap n = (m : Int) := by rw [IntKind.wrap_u64]; omega
  simp only [h0, decide_false] at hW
  simp [lf19, h0, w1, ht, hW, iP, fillS, freeze1, Rof_mu, Rof_fns]
end Go.Proofs.YtcbagnlidecmkaaGreatDoor.Nn

/-
 The reference: a text's number.
-/
namespace Go.Proofs.YtcbagnlidecmkaaGreatDoor.Nn
open Go Go.Abs Go.Limbs
variable {base : Prot}
set_option maxRecDepth 20000
attribute [local irreducible] vc
attribute [local simp] pureS touchV freezeL fuel shiftV u64 au
end Go.Proofs.YtcbagnlidecmkaaGreatDoor.Nn

/-
 The reference: a number read from a text.
-/
namespace Go.Proofs.YtcbagnlidecmkaaGreatDoor.Nn
open Go Go.Abs Go.Limbs
variable {base : Prot}
set_option maxRecDepth 20000
attribute [local irreducible] vc
attribute [local simp] pureS touchV freezeL fuel shiftV u64 au
def Tpr : Tab := Tab.none
theorem Tpr_ok : TabOk Tryz.prog base Tpr := Tab.none_ok
theorem Tpr_mu (f : FuncId) (a : List AVal) (H : Heap) : Tpr.mu f a H = none := (rfl)
end Go.Proofs.YtcbagnlidecmkaaGreatDoor.Nn

/-
 The reference: trim's own array; the text of a number.
-/
namespace Go.Proofs.YtcbagnlidecmkaaGreatDoor.Nn
open Go Go.Abs Go.Limbs
variable {base : Prot}
set_option maxRecDepth 20000
attribute [local irreducible] vc
attribute [local simp] pureS touchV freezeL fuel shiftV u64 au
def sTrimO : List PVal → Option (AVal × Heap)
 | [.lst es] => match decU es with | some l => if l.length ≤ 100000 then some (.own 0 0 (len (val l)) 1, [rowE 1 (limbs (val l))]) else none | none => none
 | _ => none
theorem sTrimO_at {l : List Nat} (hw : Wf l) (h : l.length ≤ 100000) : sTrimO [.lst (l.map u64)] = some (.own 0 0 (len (val l)) 1, [rowE 1 (limbs (val l))]) := by
 simp only [sTrimO, decU_map hw]
 rw [if_pos h]
theorem rtrimO_ok : FnOk Tryz.prog base 41 sTrimO := by
 refine ⟨goodFn_of_low low41, fun args r E hs c w vs hI hr => ?_⟩
 unfold sTrimO at hs
 split at hs
 case h_2 => cases hs
 rename_i es
 split at hs
 case h_2 => cases hs
 rename_i l hd
 split at hs
 case isFalse => cases hs
 rename_i hl
 obtain ⟨rfl, hw⟩ := decU_some hd
 cases hs
 refine (calls_of_vc hmix Tab.none_ok globNone low41 (Q := fun r H => r = .own 0 0 (len (val l)) 1 ∧ H = [rowE 1 (limbs (val l))]) (by simp [lf41]) hI hr (fun _ => ?_)).mono fun e w' ⟨v, r2, H2, c', he, hq, st, i', rp⟩ => ?_
 case refine_2 =>
  obtain ⟨rfl, rfl⟩ := hq
  exact ⟨v, c', he, st, i', rp⟩
 simp [lf41]
 simp only [lf41_B0, vc_block]
 refine loop_ind (fun fr H => ∃ n : Nat, H = [] ∧ n ≤ l.length ∧ val (l.take n) = val l ∧ fr 0 = .p (.lst (l.map u64)) ∧ fr 3 = .p (.int .i64 n)) (fun fr _ => ivar (fr 3)) ⟨l.length, rfl, by omega, by simp, by simp, by simp⟩ ?_
 rintro fr H ⟨n, rfl, hn, hv, h0, h3⟩
 have hcap := mul_capI n (by omega)
 have hnI : (n : Int) ≤ l.length := by omega
 by_cases h : 0 < n
 ·have hI : (0 : Int) < n := by omega
  obtain ⟨x, hx⟩ : ∃ x, l[n - 1]? = some x := ⟨_, List.getElem?_eq_getElem (by omega)⟩
  obtain ⟨n1, hn1⟩ : ∃ t, t = n - 1 := ⟨_, rfl⟩
  rw [← hn1] at hx
  have hw1 : IntKind.i64.wrap ((n : Int) - 1) = (n1 : Int) := by rw [IntWalk.i64_in _ (by omega)]; omega
  have hlt : n1 < l.length := by omega
  by_cases hz : x = 0
  ·subst hz
   simp [h0, h3, hI, h, hw1, hx, getE hx, ivar]
   refine ⟨⟨n1, by omega, ?_, rfl⟩, by omega⟩
   have := trim_step (a := l) (n := n1) hx
   rw [show n1 + 1 = n by omega] at this
   rw [← this, hv]
  ·have hb : ((x : Int) == 0) = false := beq_false_of_ne (by omega)
   have hres : limbs (val l) = l.take n := (trim_done (a := l) (n := n) hw hv (.inr ⟨x, by rw [← hn1]; exact hx, hz⟩)).symm
   have hln : (l.take n).length = n := by rw [List.length_take]; omega
   have hlen : len (val l) = n := by rw [len, hres, hln]
   have happ := app_num (H := [rowE 0 []]) (k := 0) (ver := 0) (out := []) (ys := l.take n) rfl (by simp; omega)
   rw [hln] at happ
   simp only [List.map_take, List.length_nil, Nat.zero_add, List.nil_append, List.set_cons_zero] at happ
   simp [rowE, au_comp, -appV] at happ
   simp [h0, h3, hI, h, hw1, hx, getE hx, hb, hres, hcap, hnI, fillS, mapO_au, touch_au, au_comp, happ, retQ, hlen, rowE, -appV]
 ·have hn0 : n = 0 := by omega
  subst hn0
  have hz : val l = 0 := by rw [← hv]; rfl
  simp [h0, h3, hz, limbs_zero, fillS, retQ, len_zero, rowE]
theorem digit_val {d : Nat} (h : d < 10) : ((digit d).toNat : Int) = 48 + (d : Int) := by
 unfold digit
 rw [UInt8.toNat_ofNat']
 omega
theorem dec_leR {n k : Nat} (h : n < 10 ^ (k + 1)) : (Lib.decDigits n).length ≤ k + 1 := (pad_dec k n h).1
theorem B64_le : ∃ k, k ≤ 1279 ∧ B ^ 64 ≤ 10 ^ (k + 1) := ⟨1279, Nat.le_refl _, by decide +kernel⟩
theorem dec_pos (m : Nat) : 1 ≤ (Lib.decDigits m).length := by
 by_cases h : m < 10
 ·rw [Lib.decDigits_one h]; simp
 ·rw [dec_ten h]; simp
theorem dec_step {D : List UInt8} {m : Nat} {s : List UInt8} (hm : m ≠ 0) (h : D = Lib.decDigits m ++ s) :
  (m / 10 ≠ 0 → D = Lib.decDigits (m / 10) ++ (digit (m % 10) :: s)) ∧ (m / 10 = 0 → D = digit (m % 10) :: s) := by
 constructor
 ·intro h1
  rw [h, dec_ten (by omega)]
  simp
 ·intro h1
  have : m < 10 := by omega
  rw [h, Lib.decDigits_one this, Nat.mod_eq_of_lt this]
  rfl
theorem shiftE_row (k ver : Nat) (l : List Nat) : shiftE k (rowE ver l) = rowE ver l := by
 unfold shiftE rowE
 congr 1
 rw [List.map_map]
 exact List.map_congr_left fun x _ => by simp [au]
def Ttn : Tab := ((Tab.none.with 62 (pureS sValid)).with 63 (pureS sDiv64)).with 41 sTrimO
theorem Ttn_ok : TabOk Tryz.prog base Ttn := Tab.with_ok (Tab.with_ok (Tab.with_ok Tab.none_ok rvalid_ok) div64_ok) rtrimO_ok
theorem Ttn_mu (f : FuncId) (a : List AVal) (H : Heap) : Ttn.mu f a H = none := (rfl)
theorem Ttn_fns : Ttn.fn 62 = pureS sValid ∧ Ttn.fn 63 = pureS sDiv64 ∧ Ttn.fn 41 = sTrimO := ⟨rfl, rfl, rfl⟩
theorem ten_loop {m k ver : Nat} {s : List UInt8} {H0 : Heap} {fr0 : AFr} {R : LExit → AFr → Heap → Prop} (hm : len m ≤ 64) (hk : H0[k]? = some (rowE ver (limbs m)))
  (f3 : fr0 3 = .p (.str s)) (f4 : fr0 4 = .own k 0 (len m) ver) (f5 : fr0 5 = .p (.int .u64 0)) (f6 : fr0 6 = .p (.int .i64 ((len m : Int) - 1)))
  (hR : ∀ (fr' : AFr) (l : List Nat) (H' : Heap), l.length = len m → Wf l → val l = m / 10 → H'[k]? = some (rowE ver l) → fr' 3 = .p (.str s) → fr' 4 = .own k 0 (len m) ver → fr' 5 = .p (.int .u64 (m % 10 : Nat)) → R .normal fr' H') :
  vc Ttn lf39_B0 R fr0 H0 := by
 have la : (limbs m).length = len m := rfl
 have wa := wf_limbs m
 simp only [lf39_B0, vc_block]
 refine loop_ind (fun fr H => ∃ (n r : Nat) (l : List Nat), n ≤ len m ∧ l.length = len m ∧ Wf l ∧ r < 10 ∧ val ((limbs m).drop n) = 10 * val (l.drop n) + r ∧ l.take n = (limbs m).take n ∧ H[k]? = some (rowE ver l) ∧ fr 3 = .p (.str s) ∧
   fr 4 = .own k 0 (len m) ver ∧ fr 5 = .p (.int .u64 r) ∧ fr 6 = .p (.int .i64 ((n : Int) - 1)))
  (fun fr _ => dvar (fr 6)) ⟨len m, 0, limbs m, by omega, la, wa, by omega, by rw [List.drop_eq_nil_of_le (by omega)]; simp [val_nil], rfl, hk, f3, f4, f5, f6⟩ ?_
 rintro fr H ⟨n, r, l, hn, hl, hwl, hr, hv, htk, hkl, f3, f4, f5, f6⟩
 by_cases hn0 : 0 < n
 ·obtain ⟨j, rfl⟩ : ∃ j, n = j + 1 := ⟨n - 1, by omega⟩
  have e6 : (((j + 1 : Nat) : Int) - 1) = (j : Int) := by omega
  rw [e6] at f6
  obtain ⟨x, hx⟩ : ∃ x, (limbs m)[j]? = some x := ⟨_, List.getElem?_eq_getElem (by omega)⟩
  have hxl : l[j]? = some x := by
   have := congrArg (fun t => t[j]?) htk
   simp only [List.getElem?_take, if_pos (Nat.lt_succ_self j)] at this
   rw [this]; exact hx
  have hjl : j < l.length := by omega
  have hjm : j < len m := by omega
  have hxB := wa.get hx
  have hD := sDiv64_nat (h := r) (l := x) (y := 10) hr hxB (by decide)
  rw [show ((10 : Nat) : Int) = 10 from rfl] at hD
  have hw : IntKind.i64.wrap ((j : Int) - 1) = (j : Int) - 1 := IntWalk.i64_in _ (by omega)
  unfold rowE at hkl
  simp [f3, f4, f5, f6, hkl, hxl, getE hxl, hD, hjm, hjl, hl, hw, Ttn_mu, Ttn_fns, dvar]
  have hkH : k < H.length := (List.getElem?_eq_some_iff.1 hkl).1
  refine ⟨j, by omega, divR r x 10, l.set j (divQ r x 10), by simp [hl], hwl.set _ (div_lt hr hxB), Nat.mod_lt _ (by decide), ?_, ?_, ?_, rfl, rfl⟩
  ·rw [val_drop hx, drop_set_self hjl, val_cons]
   exact div_step hv
  ·rw [List.take_set_of_le (Nat.le_refl _)]
   have := congrArg (List.take j) htk
   rwa [List.take_take, List.take_take, Nat.min_eq_left (by omega)] at this
  ·rw [List.getElem?_set_self hkH, rowE, List.map_set]; rfl
 ·have : n = 0 := by omega
  subst this
  rw [List.drop_zero, List.drop_zero, val_limbs] at hv
  obtain ⟨hq, hr2⟩ := div_done hv hr
  simp [f6]
  subst hr2
  exact hR _ l _ hl hwl hq hkl (by simp [f3]) (by simp [f4]) (by simp [f5])
theorem rtext_ok : FnOk Tryz.prog base 39 (pureS sText) := by
 refine pure_of_vc hmix Ttn_ok globNone low39 fun args z hs hf => ?_
 unfold sText at hs
 split at hs
 case h_2 => cases hs
 rename_i es
 split at hs
 case h_2 => cases hs
 rename_i l hd
 obtain ⟨rfl, hw⟩ := decU_some hd
 cases hs
 refine ⟨by simp [lf39], ?_⟩
 have hV := sValid_list hw
 cases hok : okL l with
 | false =>
  rw [hok] at hV
  simp [lf39, hV, Ttn_mu, Ttn_fns]
 | true =>
  rw [hok] at hV
  obtain ⟨n, rfl, hn⟩ : ∃ n, l = limbs n ∧ len n ≤ 64 := okL_true hok
  rw [val_limbs]
  have la : (limbs n).length = len n := rfl
  by_cases h0 : n = 0
  ·subst h0
   have h48 : Lib.decDigits 0 = [48] := Lib.decDigits_one (by decide)
   rw [limbs_zero] at hV
   simp only [List.map_nil] at hV
   simp [lf39, hV, limbs_zero, h48, Ttn_mu, Ttn_fns]
  ·have hl0 : len n ≠ 0 := fun e => h0 (len_eq_zero.1 e)
   have hl0b : ((len n : Int) == 0) = false := beq_false_of_ne (by omega)
   have happ := app_num (H := [rowE 0 []]) (k := 0) (ver := 0) (out := []) (ys := limbs n) rfl (by simp [la]; omega)
   simp only [List.length_nil, Nat.zero_add, List.nil_append, List.set_cons_zero] at happ
   simp [rowE, la, -appV] at happ
   simp [lf39, hV, la, hl0b, fillS, au_comp, happ, Ttn_mu, Ttn_fns, -appV]
   simp only [lf39_B1, vc_block]
   obtain ⟨D, hD⟩ : ∃ D, D = Lib.decDigits n := ⟨_, rfl⟩
   have hDl : D.length ≤ 1280 := by
    obtain ⟨k, hk, h10⟩ := B64_le
    have h := dec_leR (k := k) (Nat.lt_of_lt_of_le (lt_len _) (Nat.le_trans (Bpow_le hn) h10))
    rw [hD]; omega
   rw [← hD]
   refine loop_ind (fun fr H => ∃ (m k ver : Nat) (s : List UInt8), len m ≤ 64 ∧ H[k]? = some (rowE ver (limbs m)) ∧ (m ≠ 0 → D = Lib.decDigits m ++ s) ∧ (m = 0 → D = s) ∧
     fr 3 = .p (.str s) ∧ fr 4 = .own k 0 (len m) ver)
    (fun fr _ => match fr 3 with | .p (.str z) => D.length - z.length | _ => 0) ⟨n, 0, 1, [], hn, by simp [rowE], fun _ => by simp [hD], fun e => absurd e h0, by simp, by simp⟩ ?_
   rintro fr H ⟨m, k, ver, s, hm, hk, hd1, hd2, f3, f4⟩
   have hku := hk
   unfold rowE at hku
   by_cases hm0 : m = 0
   ·subst hm0
    have hd := hd2 rfl
    rw [len_zero] at f4
    simp [f3, f4, hd, hku]
   ·have hlm : 0 < len m := Nat.pos_of_ne_zero (fun e => hm0 (len_eq_zero.1 e))
    have hw1 : IntKind.i64.wrap ((len m : Int) - 1) = (len m : Int) - 1 := IntWalk.i64_in _ (by omega)
    have hDs := hd1 hm0
    obtain ⟨hn1, hn2⟩ := dec_step hm0 hDs
    have hmlen : 1 ≤ (Lib.decDigits m).length := dec_pos m
    have hsl : s.length + 1 ≤ D.length := by rw [hDs, List.length_append]; omega
    simp [f3, f4, hlm, hw1, hku]
    refine ten_loop (s := s) hm hk (by simp [f3]) (by simp [f4]) (by simp) (by simp) ?_
    intro fr' l H' hl hwl hv hk' g3 g4 g5
    obtain ⟨r, hr⟩ : ∃ r, r = m % 10 := ⟨_, rfl⟩
    rw [← hr] at g5 hn1 hn2
    have hr10 : r < 10 := by rw [hr]; exact Nat.mod_lt _ (by decide)
    have hw2 : IntKind.u64.wrap (48 + (r : Int)) = 48 + (r : Int) := IntWalk.u64_in _ (by omega)
    have hw3 : IntKind.u8.wrap (48 + (r : Int)) = ((digit r).toNat : Int) := by rw [digit_val hr10]; exact IntWalk.u8_in _ (by omega)
    have hT := sTrimO_at hwl (by omega)
    rw [hv] at hT
    unfold rowE at hk'
    have hkH : k < H'.length := (List.getElem?_eq_some_iff.1 hk').1
    have hsM : 1 + s.length ≤ maxLen := by unfold maxLen; omega
    have hby : bytesOf [.p (.int .u8 (digit r).toNat)] = some [digit r] := by simp [bytesOf]
    have htkA : List.take (len m) (l.map au) = l.map au := List.take_of_length_le (by simp [hl])
    have hkA : ∀ e : Ent, (H' ++ [e])[k]? = some ⟨1, ver, false, l.map au, 79⟩ := fun e => by rw [List.getElem?_append_left hkH]; exact hk'
    simp [g3, g4, g5, hw2, hw3, hby, hk', hkA, hT, hl, hsM, htkA, mapO_au, touch_au, fillS, binS, Ttn_mu, Ttn_fns]
    have hdm : m / 10 ≤ m := Nat.div_le_self _ _
    refine ⟨⟨m / 10, Nat.le_trans (len_mono hdm) hm, H'.length + 1, 1, ?_, digit r :: s, hn1, hn2, rfl, rfl, rfl, rfl⟩, by omega⟩
    rw [List.getElem?_append_right (by simp [size_freeze1])]
    simp [size_freeze1, shiftE_row]
end Go.Proofs.YtcbagnlidecmkaaGreatDoor.Nn

/-
 The reference's texts of ints.
-/
namespace Go.Proofs.YtcbagnlidecmkaaGreatDoor.Nn
open Go Go.Abs Go.Limbs
variable {base : Prot}
set_option maxRecDepth 20000
attribute [local irreducible] vc
attribute [local simp] pureS touchV freezeL fuel shiftV u64 au
def textZ (z : Int) : List UInt8 := if z < 0 then 45 :: Lib.decDigits z.natAbs else Lib.decDigits z.natAbs
theorem dec_1280 {n : Nat} (h : len n ≤ 64) : (Lib.decDigits n).length ≤ 1280 := by
 obtain ⟨k, hk, h10⟩ := B64_k
 have h := dec_le (k := k) (Nat.lt_of_lt_of_le (lt_len _) (Nat.le_trans (Bpow_le h) h10))
 omega
theorem sIText_num {z : Int} (h : zl z ≤ 64) : sIText [iN z] = some (.str (textZ z)) := by
 simp only [sIText, iN, iP, decU_map (wf_limbs z.natAbs)]
 unfold textI textZ
 rw [okI_num h, val_limbs]
 by_cases hz : z < 0
 ·simp [hz]
 ·simp [hz]
theorem zl_int {n : Int} (h1 : -9223372036854775808 ≤ n) (h2 : n < 9223372036854775808) : zl n ≤ 1 := by
 unfold zl
 exact len_le (by rw [Nat.pow_one, B_lit]; omega)
def Trti : Tab := (Tab.none.with 38 (pureS sIV)).with 39 (pureS sText)
theorem Trti_ok : TabOk Tryz.prog base Trti := Tab.with_ok (Tab.with_ok Tab.none_ok rivalid_ok) rtext_ok
theorem Trti_mu (f : FuncId) (a : List AVal) (H : Heap) : Trti.mu f a H = none := (rfl)
theorem Trti_fns : Trti.fn 38 = pureS sIV ∧ Trti.fn 39 = pureS sText := ⟨rfl, rfl⟩
theorem rtexti_ok : FnOk Tryz.prog base 18 (pureS sIText) := by
 refine pure_of_vc hmix Trti_ok globNone low18 fun args z hs hf => ?_
 unfold sIText at hs
 split at hs
 case h_2 => cases hs
 rename_i s xs
 split at hs
 case h_2 => cases hs
 rename_i a ha
 obtain ⟨rfl, wa⟩ := decU_some ha
 cases hs
 refine ⟨by simp [lf18], ?_⟩
 have va := sIV_list (s := s) wa
 unfold textI
 cases oa : okI s a with
 | false => rw [oa] at va; simp [lf18, va, Trti_mu, Trti_fns]
 | true =>
  rw [oa] at va
  obtain ⟨z, hz, rfl, rfl⟩ := okI_of oa
  have t := sText_num (a := z.natAbs) hz
  rw [val_limbs]
  have L := dec_1280 (n := z.natAbs) hz
  obtain ⟨A, hA⟩ : ∃ t, t = Lib.decDigits z.natAbs := ⟨_, rfl⟩
  obtain ⟨Lz, hLz⟩ : ∃ t, t = limbs z.natAbs := ⟨_, rfl⟩
  rw [← hA] at t L ⊢
  rw [← hLz] at va t ⊢
  have m1 : 1 + A.length ≤ maxLen := by unfold maxLen; omega
  obtain ⟨s, hs⟩ : ∃ s, s = decide (z < 0) := ⟨_, rfl⟩
  rw [← hs] at va ⊢
  cases s <;> simp [lf18, va, t, binS, m1, Trti_mu, Trti_fns]
theorem text_int {z : Int} (h1 : -9223372036854775808 ≤ z) (h2 : z < 9223372036854775808) : sIOf [.int .i64 z] = some (iN z) ∧ sIText [iN z] = some (.str (if z < 0 then 45 :: Lib.decDigits z.natAbs else Lib.decDigits z.natAbs)) := by
 refine ⟨sIOf_at h1 h2, ?_⟩
 have hz : zl z ≤ 64 := Nat.le_trans (zl_int h1 h2) (by omega)
 rw [sIText_num hz]
 unfold textZ
 rfl
theorem iN_agg (z : Int) : ∃ s xs, iN z = .agg [.bool s, .lst xs] := ⟨_, _, rfl⟩
end Go.Proofs.YtcbagnlidecmkaaGreatDoor.Nn
