/-
  What the order, sums, differences and products of rows of limbs compute, for at most 100000 limbs. What the functions of bits, shifts and short division compute, for at most 100000 limbs.
-/
import Derived.Test.YtepfpgnjpkcgmaaGreatNatA
import Derived.Lib.Mul64
set_option linter.unusedSimpArgs false
set_option linter.unnecessarySimpa false
set_option linter.unusedVariables false
set_option linter.constructorNameAsVariable false

/-
 nat: the order, and what stands without zeros at the end.
-/
namespace Go.Proofs.YtepfpgnjpkcgmaaGreat
open Go Go.Abs Go.Limbs
variable {base : Prot}
set_option maxRecDepth 20000
attribute [local irreducible] vc
attribute [local simp] pureS touchV freezeL fuel shiftV u64
theorem hmix : Tryz.prog.follows .mixedOrders = true := by kernel_rfl
theorem globNone : GlobOk base gl0 := fun g c h => .junk _
theorem wrap_succ {i : Nat} (h : i < 9223372036854775807) : IntKind.i64.wrap ((i : Int) + 1) = ((i + 1 : Nat) : Int) := by
 rw [IntWalk.i64_in _ (by omega)]; omega
theorem wrap_pred {i : Nat} (h : 0 < i) (h2 : i < 9223372036854775807) : IntKind.i64.wrap ((i : Int) - 1) = ((i - 1 : Nat) : Int) := by
 rw [IntWalk.i64_in _ (by omega)]; omega
def ivar : AVal → Nat
 | .p (.int _ n) => n.toNat
 | _ => 0
def dvar : AVal → Nat
 | .p (.int _ n) => (n + 1).toNat
 | _ => 0
theorem getE {α : Type} {l : List α} {i : Nat} {x : α} (h : l[i]? = some x) : ∀ hh, l[i]'hh = x := fun hh => by
 have := List.getElem?_eq_some_iff.1 h
 exact this.2
theorem maxLen_ge : 1000000000 ≤ maxLen := by decide
def sNaN (k : IntKind) : List PVal → Option PVal
 | [.int k' _] => if k' = k then some (.bool false) else none
 | _ => none
theorem nan_u_ok : FnOk Tryz.prog base 208 (pureS (sNaN .u64)) := by
 refine pure_of_vc hmix Tab.none_ok globNone low208 fun args z hs hf => ?_
 unfold sNaN at hs
 split at hs
 case h_2 => cases hs
 split at hs
 case isFalse => cases hs
 rename_i e
 subst e
 cases hs
 exact ⟨by simp [lf208], by simp [lf208]⟩
theorem nan_i_ok : FnOk Tryz.prog base 207 (pureS (sNaN .i64)) := by
 refine pure_of_vc hmix Tab.none_ok globNone low207 fun args z hs hf => ?_
 unfold sNaN at hs
 split at hs
 case h_2 => cases hs
 split at hs
 case isFalse => cases hs
 rename_i e
 subst e
 cases hs
 exact ⟨by simp [lf207], by simp [lf207]⟩
def cmpZ (a b : Int) : Int := if a < b then -1 else if a = b then 0 else 1
theorem cmpZ_nat (a b : Nat) : cmpZ a b = cmpI a b := by unfold cmpZ cmpI; simp only [Int.ofNat_lt, Int.ofNat_inj]
def sCompare (k : IntKind) : List PVal → Option PVal
 | [.int k' a, .int k'' b] => if k' = k ∧ k'' = k then some (.int .i64 (cmpZ a b)) else none
 | _ => none
def Tnan : Tab := (Tab.none.with 207 (pureS (sNaN .i64))).with 208 (pureS (sNaN .u64))
theorem Tnan_ok : TabOk Tryz.prog base Tnan := Tab.with_ok (Tab.with_ok Tab.none_ok nan_i_ok) nan_u_ok
theorem Tnan_mu (f : FuncId) (a : List AVal) (H : Heap) : Tnan.mu f a H = none := (rfl)
theorem Tnan_i : Tnan.fn 207 = pureS (sNaN .i64) := (rfl)
theorem Tnan_u : Tnan.fn 208 = pureS (sNaN .u64) := (rfl)
theorem compare_u_ok : FnOk Tryz.prog base 187 (pureS (sCompare .u64)) := by
 refine pure_of_vc hmix Tnan_ok globNone low187 fun args z hs hf => ?_
 unfold sCompare at hs
 split at hs
 case h_2 => cases hs
 rename_i k' a k'' b
 split at hs
 case isFalse => cases hs
 rename_i e
 obtain ⟨rfl, rfl⟩ := e
 cases hs
 refine ⟨by simp [lf187], ?_⟩
 have hn : ∀ x, sNaN .u64 [.int .u64 x] = some (.bool false) := fun x => rfl
 by_cases h1 : a < b
 ·simp [lf187, Tnan_mu, Tnan_u, hn, h1, cmpZ]
 ·by_cases h2 : a = b
  ·subst h2; simp [lf187, Tnan_mu, Tnan_u, hn, cmpZ]
  ·have h3 : b < a := by omega
   simp [lf187, Tnan_mu, Tnan_u, hn, h1, h2, h3, cmpZ]
theorem compare_i_ok : FnOk Tryz.prog base 186 (pureS (sCompare .i64)) := by
 refine pure_of_vc hmix Tnan_ok globNone low186 fun args z hs hf => ?_
 unfold sCompare at hs
 split at hs
 case h_2 => cases hs
 rename_i k' a k'' b
 split at hs
 case isFalse => cases hs
 rename_i e
 obtain ⟨rfl, rfl⟩ := e
 cases hs
 refine ⟨by simp [lf186], ?_⟩
 have hn : ∀ x, sNaN .i64 [.int .i64 x] = some (.bool false) := fun x => rfl
 by_cases h1 : a < b
 ·simp [lf186, Tnan_mu, Tnan_i, hn, h1, cmpZ]
 ·by_cases h2 : a = b
  ·subst h2; simp [lf186, Tnan_mu, Tnan_i, hn, cmpZ]
  ·have h3 : b < a := by omega
   simp [lf186, Tnan_mu, Tnan_i, hn, h1, h2, h3, cmpZ]
def sTrim : List PVal → Option PVal
 | [.lst es] => match decU es with | some l => if l.length ≤ 1000000 then some (numP (val l)) else none | none => none
 | _ => none
theorem sTrim_map {l : List Nat} (h : Wf l) (h2 : l.length ≤ 1000000) : sTrim [.lst (l.map u64)] = some (.lst ((limbs (val l)).map u64)) := by
 simp only [sTrim, decU_map h, if_pos h2]; rfl
theorem trim_ok : FnOk Tryz.prog base 184 (pureS sTrim) := by
 refine pure_of_vc hmix Tab.none_ok globNone low184 fun args z hs hf => ?_
 unfold sTrim at hs
 split at hs
 case h_2 => cases hs
 rename_i es
 split at hs
 case h_2 => cases hs
 rename_i l hd
 split at hs
 case isFalse => cases hs
 rename_i hl
 obtain ⟨rfl, hw⟩ := decU_some hd
 cases hs
 refine ⟨by simp [lf184], ?_⟩
 simp [lf184]
 simp only [lf184_B0, vc_block]
 refine loop_ind (fun fr H => ∃ n : Nat, n ≤ l.length ∧ val (l.take n) = val l ∧ fr 0 = .p (.lst ((l.take n).map u64))) (fun fr _ => match fr 0 with | .p (.lst es) => es.length | _ => 0) ⟨l.length, by omega, by simp, by simp⟩ ?_
 rintro fr H ⟨n, hn, hv, h0⟩
 have hlen : (l.take n).length = n := by simp; omega
 by_cases h : 0 < n
 ·obtain ⟨x, hx⟩ : ∃ x, l[n - 1]? = some x := ⟨_, List.getElem?_eq_getElem (by omega)⟩
  have hx' : (l.take n)[n - 1]? = some x := by rw [List.getElem?_take]; simp [show n - 1 < n by omega, hx]
  have hw1 := wrap_pred (i := n) h (by omega)
  generalize hL : l.take n = L at *
  have hgx := getE hx'
  have hlt : n - 1 < L.length := by omega
  by_cases hz : x = 0
  ·subst hz
   simp [h0, hlen, h, hw1, hx']
   refine ⟨⟨n - 1, by omega, ?_, ?_⟩, by omega⟩
   ·have := trim_step (a := l) (n := n - 1) hx
    rw [show n - 1 + 1 = n by omega, hL] at this
    rw [← this, hv]
   ·rw [← hL, ← List.map_take, ← List.map_take, List.take_take, Nat.min_eq_left (by omega)]
  ·have hb : ((x : Int) == 0) = false := beq_false_of_ne (by omega)
   have hb2 : ((n : Int) == 0) = false := beq_false_of_ne (by omega)
   have hres : numP (val l) = .lst (L.map u64) := by
    have := trim_done (a := l) (n := n) hw (by rw [hL, hv]) (.inr ⟨x, hx, hz⟩)
    rw [hL] at this
    rw [this]; rfl
   simp [h0, hlen, h, hw1, hx', hb, hb2, hres]
 ·have hn0 : n = 0 := by omega
  subst hn0
  have hz : val l = 0 := by rw [← hv]; rfl
  simp [h0, hz, numP, lstP, limbs_zero]
def sValid : List PVal → Option PVal
 | [.lst es] => match decU es with | some l => some (.bool (decide (l.length ≤ 64) && decide (limbs (val l) = l))) | none => none
 | _ => none
theorem canon_last {l : List Nat} (h : Wf l) : limbs (val l) = l ↔ l.getLast? ≠ some 0 := by
 constructor
 ·intro e
  rw [← e]
  exact (canon_limbs _).2
 ·intro e
  exact limbs_val ⟨h, e⟩
theorem valid_ok : FnOk Tryz.prog base 151 (pureS sValid) := by
 refine pure_of_vc hmix Tab.none_ok globNone low151 fun args z hs hf => ?_
 unfold sValid at hs
 split at hs
 case h_2 => cases hs
 rename_i es
 split at hs
 case h_2 => cases hs
 rename_i l hd
 obtain ⟨rfl, hw⟩ := decU_some hd
 cases hs
 refine ⟨by simp [lf151], ?_⟩
 have hc := canon_last hw
 by_cases h1 : (l.length : Int) ≤ 64
 ·have h1' : l.length ≤ 64 := by omega
  by_cases h0 : l.length = 0
  ·have : l = [] := List.length_eq_zero_iff.1 h0
   subst this
   simp [lf151, val_nil, limbs_zero]
  ·have hw1 := wrap_pred (i := l.length) (by omega) (by omega)
   obtain ⟨x, hx⟩ : ∃ x, l[l.length - 1]? = some x := ⟨_, List.getElem?_eq_getElem (by omega)⟩
   have hb2 : ((l.length : Int) == 0) = false := beq_false_of_ne (by omega)
   have hlast : l.getLast? = some x := by rw [List.getLast?_eq_getElem?]; exact hx
   rw [hlast] at hc
   by_cases hz : x = 0
   ·subst hz
    have hne : ¬ limbs (val l) = l := fun e => hc.1 e rfl
    have hb : ((0 : Int) != 0) = false := rfl
    simp [lf151, h1, h1', hw1, hx, hb, hb2, hne]
   ·have hb : ((x : Int) != 0) = true := by simp; omega
    have heq : limbs (val l) = l := hc.2 (fun e => hz (by simpa using e))
    simp [lf151, h1, h1', hw1, hx, hb, hb2, heq]
 ·have h1' : ¬ l.length ≤ 64 := by omega
  simp [lf151, h1, h1']
def sOrder : List PVal → Option PVal
 | [.lst xs, .lst ys] => match decN xs, decN ys with | some a, some b => some (.int .i64 (cmpI a b)) | _, _ => none
 | _ => none
theorem sOrder_num {a b : Nat} (ha : len a ≤ 100000) (hb : len b ≤ 100000) : sOrder [.lst ((limbs a).map u64), .lst ((limbs b).map u64)] = some (.int .i64 (cmpI a b)) := by
 simp only [sOrder, decN_num ha, decN_num hb]
def Tcmp : Tab := (Tab.none.with 186 (pureS (sCompare .i64))).with 187 (pureS (sCompare .u64))
theorem Tcmp_ok : TabOk Tryz.prog base Tcmp := Tab.with_ok (Tab.with_ok Tab.none_ok compare_i_ok) compare_u_ok
theorem Tcmp_mu (f : FuncId) (a : List AVal) (H : Heap) : Tcmp.mu f a H = none := (rfl)
theorem Tcmp_i : Tcmp.fn 186 = pureS (sCompare .i64) := (rfl)
theorem Tcmp_u : Tcmp.fn 187 = pureS (sCompare .u64) := (rfl)
theorem sCompare_u (a b : Nat) : sCompare .u64 [.int .u64 a, .int .u64 b] = some (.int .i64 (cmpI a b)) := by simp [sCompare, cmpZ_nat]
theorem sCompare_i (a b : Nat) : sCompare .i64 [.int .i64 a, .int .i64 b] = some (.int .i64 (cmpI a b)) := by simp [sCompare, cmpZ_nat]
theorem cmpI_first {a b : List Nat} {i x y : Nat} (ha : Wf a) (hb : Wf b) (hd : a.drop (i + 1) = b.drop (i + 1)) (hx : a[i]? = some x) (hy : b[i]? = some y) (h : x ≠ y) : cmpI (val a) (val b) = cmpI x y := by
 by_cases h1 : x < y
 ·rw [cmpI_lt h1, cmpI_lt (lt_of_first ha hd hx hy h1)]
 ·have h2 : y < x := by omega
  rw [cmpI_gt h2, cmpI_gt (lt_of_first hb hd.symm hy hx h2)]
theorem order_ok : FnOk Tryz.prog base 152 (pureS sOrder) := by
 refine pure_of_vc hmix Tcmp_ok globNone low152 fun args z hs hf => ?_
 unfold sOrder at hs
 split at hs
 case h_2 => cases hs
 rename_i xs ys
 split at hs
 case h_2 => cases hs
 rename_i a b ha hb
 cases hs
 obtain ⟨rfl, hla⟩ := decN_some ha
 obtain ⟨rfl, hlb⟩ := decN_some hb
 refine ⟨by simp [lf152], ?_⟩
 have wa := wf_limbs a
 have wb := wf_limbs b
 have va := val_limbs a
 have vb := val_limbs b
 have la : len a = (limbs a).length := rfl
 have lb : len b = (limbs b).length := rfl
 by_cases h : (limbs a).length = (limbs b).length
 ·have hbn : (((limbs a).length : Int) != ((limbs b).length : Int)) = false := by simp [h]
  simp [lf152, hbn]
  simp only [lf152_B0, vc_block]
  refine loop_ind (fun fr H => ∃ n : Nat, n ≤ (limbs a).length ∧ (limbs a).drop n = (limbs b).drop n ∧ fr 0 = .p (.lst ((limbs a).map u64)) ∧ fr 1 = .p (.lst ((limbs b).map u64)) ∧ fr 5 = .p (.int .i64 ((n : Int) - 1)))
   (fun fr _ => dvar (fr 5)) ⟨(limbs a).length, by omega, by rw [List.drop_length, h, List.drop_length], by simp, by simp, ?_⟩ ?_
  ·rw [← h]
   simp [IntWalk.i64_in ((limbs a).length - 1) (by omega)]
  rintro fr H ⟨n, hn, hd, h0, h1, h5⟩
  by_cases hn0 : 0 < n
  ·obtain ⟨m, rfl⟩ : ∃ m, n = m + 1 := ⟨n - 1, by omega⟩
   have e5 : (((m + 1 : Nat) : Int) - 1) = (m : Int) := by omega
   rw [e5] at h5
   obtain ⟨x, hx⟩ : ∃ x, (limbs a)[m]? = some x := ⟨_, List.getElem?_eq_getElem (by omega)⟩
   obtain ⟨y, hy⟩ : ∃ y, (limbs b)[m]? = some y := ⟨_, List.getElem?_eq_getElem (by omega)⟩
   by_cases hxy : x = y
   ·subst hxy
    have hw : IntKind.i64.wrap ((m : Int) - 1) = (m : Int) - 1 := IntWalk.i64_in _ (by omega)
    simp [h0, h1, h5, hx, hy, hw, dvar]
    exact ⟨m, by omega, by rw [drop_get hx, drop_get hy, hd], rfl⟩
   ·have hb : ((x : Int) != (y : Int)) = true := by simp; omega
    have hc : cmpI a b = cmpI x y := by
     have := cmpI_first wa wb hd hx hy hxy
     rwa [va, vb] at this
    simp [h0, h1, h5, hx, hy, hb, Tcmp_mu, Tcmp_u, sCompare_u, hc]
  ·have : n = 0 := by omega
   subst this
   have e : a = b := by
    rw [List.drop_zero, List.drop_zero] at hd
    rw [← va, ← vb, hd]
   subst e
   simp [h5, cmpI_eq]
 ·have hbn : (((limbs a).length : Int) != ((limbs b).length : Int)) = true := by simp; omega
  have hc : cmpI a b = cmpI (limbs a).length (limbs b).length := by
   by_cases h1 : (limbs a).length < (limbs b).length
   ·rw [cmpI_lt h1, cmpI_lt (lt_of_len h1)]
   ·have h2 : (limbs b).length < (limbs a).length := by omega
    rw [cmpI_gt h2, cmpI_gt (lt_of_len h2)]
  simp [lf152, hbn, Tcmp_mu, Tcmp_i, sCompare_i, hc]
end Go.Proofs.YtepfpgnjpkcgmaaGreat

/-
 nat: sums and differences.
-/
namespace Go.Proofs.YtepfpgnjpkcgmaaGreat
open Go Go.Abs Go.Limbs
variable {base : Prot}
set_option maxRecDepth 20000
attribute [local irreducible] vc
attribute [local simp] pureS touchV freezeL fuel shiftV u64
def au (n : Nat) : AVal := .p (.int .u64 n)
attribute [local simp] au
def rowE (ver : Nat) (l : List Nat) : Ent := ⟨1, ver, false, l.map au, 157⟩
theorem mapO_au (H : Heap) (n : Nat) : ∀ l : List Nat, mapO (resolveV H n) (l.map au) = some (l.map u64)
 | [] => rfl
 | x :: r => by simp [au, mapO, resolveV, mapO_au H n r]
theorem mapO_au_take (H : Heap) (n k : Nat) (l : List Nat) : mapO (resolveV H n) (List.take k (l.map au)) = some (List.take k (l.map u64)) := by rw [← List.map_take, mapO_au, List.map_take]
theorem touch_au (H : Heap) (n : Nat) : ∀ l : List Nat, (l.map au).flatMap (touchV H n) = []
 | [] => rfl
 | x :: r => by rw [List.map_cons, List.flatMap_cons, touch_au H n r]; cases n <;> simp [au, touchV]
theorem touch_au_take (H : Heap) (n k : Nat) (l : List Nat) : (List.take k (l.map au)).flatMap (touchV H n) = [] := by rw [← List.map_take, touch_au]
theorem add64_at : ∀ ps x, sAdd64 ps = some x → ExtOk Tryz.prog 190 ps x := by
 obtain ⟨fn, hfn⟩ : ∃ fn, Tryz.prog.funcs[190]? = some fn := ⟨_, rfl⟩
 refine add64_ext hfn ?_ ?_ ?_ ?_ <;> (cases hfn; kernel_rfl)
theorem sub64_at : ∀ ps x, sSub64 ps = some x → ExtOk Tryz.prog 200 ps x := by
 obtain ⟨fn, hfn⟩ : ∃ fn, Tryz.prog.funcs[200]? = some fn := ⟨_, rfl⟩
 refine sub64_ext hfn ?_ ?_ ?_ ?_ <;> (cases hfn; kernel_rfl)
def Tadd : Tab := ((Tab.none.with 184 (pureS sTrim)).ext 190 sAdd64).ext 200 sSub64
theorem Tadd_ok : TabOk Tryz.prog base Tadd := Tab.ext_ok (Tab.ext_ok (Tab.with_ok Tab.none_ok trim_ok) add64_at) sub64_at
theorem Tadd_mu (f : FuncId) (a : List AVal) (H : Heap) : Tadd.mu f a H = none := (rfl)
theorem Tadd_trim : Tadd.fn 184 = pureS sTrim := (rfl)
theorem Tadd_add : Tadd.ex 190 = sAdd64 := (rfl)
theorem Tadd_sub : Tadd.ex 200 = sSub64 := (rfl)
theorem plus_loop {a b : List Nat} {Q : LExit → AFr → Heap → Prop} {fr : AFr} {H : Heap} (hH : H = [rowE 0 (List.replicate (a.length + 1) 0)]) (wa : Wf a) (wb : Wf b) (hla : a.length ≤ 100000)
  (h1 : fr 1 = .p (.lst (b.map u64))) (h5 : fr 5 = .own 0 0 (a.length + 1) 0) (h6 : fr 6 = .p (.int .u64 0)) (h21 : fr 21 = .p (.lst (a.map u64)))
  (h22 : fr 22 = .p (.int .i64 a.length)) (h23 : fr 23 = .p (.int .i64 0)) (h0 : fr 0 = .p (.lst (a.map u64)))
  (hq : ∀ (fr' : AFr) (l : List Nat) (c : Nat), l.length = a.length + 1 → Wf l → c ≤ 1 → val (l.take a.length) + B ^ a.length * c = val a + val (b.take a.length) → fr' 0 = .p (.lst (a.map u64)) →
   fr' 5 = .own 0 0 (a.length + 1) 0 → fr' 6 = .p (.int .u64 c) → Q .normal fr' [rowE 0 l]) : vc Tadd lf180_B0 Q fr H := by
 subst hH
 simp only [lf180_B0, vc_block]
 refine loop_ind (fun fr H => ∃ (i : Nat) (l : List Nat) (c : Nat), i ≤ a.length ∧ l.length = a.length + 1 ∧ Wf l ∧ c ≤ 1 ∧ val (l.take i) + B ^ i * c = val (a.take i) + val (b.take i) ∧ H = [rowE 0 l] ∧
   fr 0 = .p (.lst (a.map u64)) ∧ fr 1 = .p (.lst (b.map u64)) ∧ fr 5 = .own 0 0 (a.length + 1) 0 ∧ fr 6 = .p (.int .u64 c) ∧ fr 21 = .p (.lst (a.map u64)) ∧ fr 22 = .p (.int .i64 a.length) ∧ fr 23 = .p (.int .i64 i))
  (fun fr _ => a.length - ivar (fr 23)) ⟨0, List.replicate (a.length + 1) 0, 0, by omega, by simp, Wf.zeros _, by omega, by simp [val_nil], rfl, h0, h1, h5, h6, h21, h22, h23⟩ ?_
 rintro fr H ⟨i, l, c, hi, hl, hwl, hc, hv, rfl, h0, h1, h5, h6, h21, h22, h23⟩
 by_cases h : i < a.length
 ·obtain ⟨x, hx⟩ : ∃ x, a[i]? = some x := ⟨_, List.getElem?_eq_getElem h⟩
  have hxB := wa.get hx
  have hil : i < l.length := by omega
  have hlI : (i : Int) < (a.length : Int) + 1 := by omega
  obtain ⟨o, ho⟩ : ∃ o, l[i]? = some o := ⟨_, List.getElem?_eq_getElem hil⟩
  by_cases hb : i < b.length
  ·obtain ⟨y, hy⟩ : ∃ y, b[i]? = some y := ⟨_, List.getElem?_eq_getElem hb⟩
   have hA := sAdd64_nat (x := x) (y := y) hc
   have gx := getE hx
   have gy := getE hy
   have go := getE ho
   simp [h0, h1, h5, h6, h21, h22, h23, h, hb, gx, gy, hA, hil, hlI, go, rowE, Tadd_add, wrap_succ (i := i) (by omega), ivar]
   refine ⟨⟨i + 1, by omega, l.set i (addD x y c), by simp [hl], hwl.set _ (addD_lt _ _ _), addC x y c, add_carry hxB (wb.get hy) hc, ?_, by rw [List.map_set]; rfl, rfl, by omega⟩, by omega⟩
   rw [val_take_set hil, val_take_succ hx, val_take_succ hy, Nat.pow_succ]
   exact add_step hv
  ·have hA := sAdd64_nat (x := x) (y := 0) hc
   have hA' : sAdd64 [.int .u64 x, .int .u64 0, .int .u64 c] = some (.tup [.int .u64 (addD x 0 c), .int .u64 (addC x 0 c)]) := hA
   have gx := getE hx
   have go := getE ho
   simp [h0, h1, h5, h6, h21, h22, h23, h, hb, gx, hA', hil, hlI, go, rowE, Tadd_add, wrap_succ (i := i) (by omega), ivar]
   refine ⟨⟨i + 1, by omega, l.set i (addD x 0 c), by simp [hl], hwl.set _ (addD_lt _ _ _), addC x 0 c, add_carry hxB B_pos hc, ?_, by rw [List.map_set]; rfl, rfl, by omega⟩, by omega⟩
   rw [val_take_set hil, val_take_succ hx, take_over (List.getElem?_eq_none (by omega)), Nat.pow_succ]
   have := add_step (x := x) (y := 0) hv
   rw [Nat.mul_zero, Nat.add_zero] at this
   exact this
 ·have hil : i = a.length := by omega
  subst hil
  rw [List.take_of_length_le (Nat.le_refl _)] at hv
  simp [h22, h23]
  exact hq _ l c hl hwl hc hv (by simp [h0]) (by simp [h5]) (by simp [h6])
theorem mul_cap (n : Nat) (h : n ≤ 1000000) : n * 8 ≤ 140737488355328 ∧ n ≤ maxLen := ⟨by omega, Nat.le_trans h (Nat.le_trans (by omega) maxLen_ge)⟩
theorem mul_capI (n : Nat) (h : n ≤ 1000000) : (n : Int) * 8 ≤ 140737488355328 ∧ (n : Int) ≤ maxLen := by
 have := mul_cap n h
 omega
theorem sum_capI (n : Nat) (h : n ≤ 1000000) : ((n : Int) + 1) * 8 ≤ 140737488355328 ∧ (n : Int) + 1 ≤ maxLen ∧ 0 ≤ (n : Int) + 1 := by
 have h1 := maxLen_ge
 omega
def sPlus : List PVal → Option PVal
 | [.lst xs, .lst ys] => match decN xs, decN ys with | some a, some b => some (numP (a + b)) | _, _ => none
 | _ => none
theorem sPlus_num {a b : Nat} (ha : len a ≤ 100000) (hb : len b ≤ 100000) : sPlus [.lst ((limbs a).map u64), .lst ((limbs b).map u64)] = some (.lst ((limbs (a + b)).map u64)) := by
 simp only [sPlus, decN_num ha, decN_num hb]; rfl
theorem plus_end {a l : List Nat} {c n : Nat} (hl : l.length = a.length + 1) (hw : Wf l) (hc : c ≤ 1) (hle : a.length ≤ 100000) (hv : val (l.take a.length) + B ^ a.length * c = n) :
  ∃ L, (List.map au l).set a.length (AVal.p (.int .u64 c)) = List.map au L ∧ L.length = a.length + 1 ∧ List.take (a.length + 1) (L.map u64) = L.map u64 ∧ sTrim [.lst (L.map u64)] = some (numP n) := by
 refine ⟨l.set a.length c, by rw [List.map_set]; rfl, by simp [hl], List.take_of_length_le (by simp; omega), ?_⟩
 have h1 := sTrim_map (hw.set a.length (show c < B by have := B_one; omega)) (by simp; omega)
 have h2 := val_take_set (l := l) (i := a.length) (by omega) c
 rw [List.take_of_length_le (by simp; omega)] at h2
 rw [h2, hv] at h1
 exact h1
theorem plus_ok : FnOk Tryz.prog base 180 (pureS sPlus) := by
 refine pure_of_vc hmix Tadd_ok globNone low180 fun args z hs hf => ?_
 unfold sPlus at hs
 split at hs
 case h_2 => cases hs
 rename_i xs ys
 split at hs
 case h_2 => cases hs
 rename_i a b ha hb
 cases hs
 obtain ⟨rfl, hla⟩ := decN_some ha
 obtain ⟨rfl, hlb⟩ := decN_some hb
 refine ⟨by simp [lf180], ?_⟩
 have wa := wf_limbs a
 have wb := wf_limbs b
 have la : len a = (limbs a).length := rfl
 have lb : len b = (limbs b).length := rfl
 by_cases h : (limbs a).length < (limbs b).length
 ·have hcap := sum_capI (limbs b).length (by omega)
  have hw := wrap_succ (i := (limbs b).length) (by omega)
  simp [lf180, h, hcap, hw]
  refine plus_loop (a := limbs b) (b := limbs a) (by simp [rowE]) wb wa (by omega) (by simp) (by simp) (by simp) (by simp) (by simp) (by simp) (by simp) fun fr' l c hl hwl hc hv h0 h5 h6 => ?_
  rw [List.take_of_length_le (by omega : (limbs a).length ≤ (limbs b).length), val_limbs, val_limbs] at hv
  obtain ⟨o, ho⟩ : ∃ o, l[(limbs b).length]? = some o := ⟨_, List.getElem?_eq_getElem (by omega)⟩
  obtain ⟨L, hL, hLl, hT, ht⟩ := plus_end (a := limbs b) (n := a + b) hl hwl hc (by omega) (by omega)
  have hlt : ((limbs b).length : Int) < (limbs b).length + 1 := by omega
  simp [h0, h5, h6, rowE, ho, hlt, hL, hLl, hT, ht, mapO_au_take, mapO_au, touch_au, touch_au_take, Tadd_mu, Tadd_trim]
 ·have hcap := sum_capI (limbs a).length (by omega)
  have hw := wrap_succ (i := (limbs a).length) (by omega)
  simp [lf180, h, hcap, hw]
  refine plus_loop (a := limbs a) (b := limbs b) (by simp [rowE]) wa wb (by omega) (by simp) (by simp) (by simp) (by simp) (by simp) (by simp) (by simp) fun fr' l c hl hwl hc hv h0 h5 h6 => ?_
  rw [List.take_of_length_le (by omega : (limbs b).length ≤ (limbs a).length), val_limbs, val_limbs] at hv
  obtain ⟨o, ho⟩ : ∃ o, l[(limbs a).length]? = some o := ⟨_, List.getElem?_eq_getElem (by omega)⟩
  obtain ⟨L, hL, hLl, hT, ht⟩ := plus_end (a := limbs a) (n := a + b) hl hwl hc (by omega) (by omega)
  have hlt : ((limbs a).length : Int) < (limbs a).length + 1 := by omega
  simp [h0, h5, h6, rowE, ho, hlt, hL, hLl, hT, ht, mapO_au_take, mapO_au, touch_au, touch_au_take, Tadd_mu, Tadd_trim]
end Go.Proofs.YtepfpgnjpkcgmaaGreat

/-
 nat: differences.
-/
namespace Go.Proofs.YtepfpgnjpkcgmaaGreat
open Go Go.Abs Go.Limbs
variable {base : Prot}
set_option maxRecDepth 20000
attribute [local irreducible] vc
attribute [local simp] pureS touchV freezeL fuel shiftV u64 au
theorem minus_loop {a b : List Nat} {Q : LExit → AFr → Heap → Prop} {fr : AFr} {H : Heap} (hH : H = [rowE 0 (List.replicate a.length 0)]) (wa : Wf a) (wb : Wf b) (hla : a.length ≤ 100000)
  (h1 : fr 1 = .p (.lst (b.map u64))) (h5 : fr 5 = .own 0 0 a.length 0) (h6 : fr 6 = .p (.int .u64 0)) (h13 : fr 13 = .p (.lst (a.map u64)))
  (h14 : fr 14 = .p (.int .i64 a.length)) (h15 : fr 15 = .p (.int .i64 0))
  (hq : ∀ (fr' : AFr) (l : List Nat) (c : Nat), l.length = a.length → Wf l → c ≤ 1 → val l + val (b.take a.length) = val a + B ^ a.length * c →
   fr' 5 = .own 0 0 a.length 0 → Q .normal fr' [rowE 0 l]) : vc Tadd lf181_B0 Q fr H := by
 subst hH
 simp only [lf181_B0, vc_block]
 refine loop_ind (fun fr H => ∃ (i : Nat) (l : List Nat) (c : Nat), i ≤ a.length ∧ l.length = a.length ∧ Wf l ∧ c ≤ 1 ∧ val (l.take i) + val (b.take i) = val (a.take i) + B ^ i * c ∧ H = [rowE 0 l] ∧
   fr 1 = .p (.lst (b.map u64)) ∧ fr 5 = .own 0 0 a.length 0 ∧ fr 6 = .p (.int .u64 c) ∧ fr 13 = .p (.lst (a.map u64)) ∧ fr 14 = .p (.int .i64 a.length) ∧ fr 15 = .p (.int .i64 i))
  (fun fr _ => a.length - ivar (fr 15)) ⟨0, List.replicate a.length 0, 0, by omega, by simp, Wf.zeros _, by omega, by simp [val_nil], rfl, h1, h5, h6, h13, h14, h15⟩ ?_
 rintro fr H ⟨i, l, c, hi, hl, hwl, hc, hv, rfl, h1, h5, h6, h13, h14, h15⟩
 by_cases h : i < a.length
 ·obtain ⟨x, hx⟩ : ∃ x, a[i]? = some x := ⟨_, List.getElem?_eq_getElem h⟩
  have hxB := wa.get hx
  have hil : i < l.length := by omega
  obtain ⟨o, ho⟩ : ∃ o, l[i]? = some o := ⟨_, List.getElem?_eq_getElem hil⟩
  have gx := getE hx
  have go := getE ho
  by_cases hb : i < b.length
  ·obtain ⟨y, hy⟩ : ∃ y, b[i]? = some y := ⟨_, List.getElem?_eq_getElem hb⟩
   have hA := sSub64_nat (x := x) (y := y) hc
   have gy := getE hy
   simp [h1, h5, h6, h13, h14, h15, h, hb, gx, gy, hA, hil, go, rowE, Tadd_sub, wrap_succ (i := i) (by omega), ivar]
   refine ⟨⟨i + 1, by omega, l.set i (subD x y c), by simp [hl], hwl.set _ (subD_lt _ _ _), subC x y c, subC_le _ _ _, ?_, by rw [List.map_set]; rfl, rfl, by omega⟩, by omega⟩
   rw [val_take_set hil, val_take_succ hx, val_take_succ hy, Nat.pow_succ]
   exact sub_step hxB (wb.get hy) hc hv
  ·have hA := sSub64_nat (x := x) (y := 0) hc
   have hA' : sSub64 [.int .u64 x, .int .u64 0, .int .u64 c] = some (.tup [.int .u64 (subD x 0 c), .int .u64 (subC x 0 c)]) := hA
   simp [h1, h5, h6, h13, h14, h15, h, hb, gx, hA', hil, go, rowE, Tadd_sub, wrap_succ (i := i) (by omega), ivar]
   refine ⟨⟨i + 1, by omega, l.set i (subD x 0 c), by simp [hl], hwl.set _ (subD_lt _ _ _), subC x 0 c, subC_le _ _ _, ?_, by rw [List.map_set]; rfl, rfl, by omega⟩, by omega⟩
   rw [val_take_set hil, val_take_succ hx, take_over (List.getElem?_eq_none (by omega)), Nat.pow_succ]
   have := sub_step hxB B_pos hc hv (y := 0)
   rw [Nat.mul_zero, Nat.add_zero] at this
   exact this
 ·have hil : i = a.length := by omega
  subst hil
  rw [List.take_of_length_le (Nat.le_refl _), List.take_of_length_le (by omega : l.length ≤ a.length)] at hv
  simp [h14, h15]
  exact hq _ l c hl hwl hc hv (by simp [h5])
def sMinus : List PVal → Option PVal
 | [.lst xs, .lst ys] => match decN xs, decN ys with | some a, some b => if b ≤ a then some (numP (a - b)) else none | _, _ => none
 | _ => none
theorem sMinus_num {a b : Nat} (ha : len a ≤ 100000) (hb : len b ≤ 100000) (h : b ≤ a) : sMinus [.lst ((limbs a).map u64), .lst ((limbs b).map u64)] = some (.lst ((limbs (a - b)).map u64)) := by
 simp only [sMinus, decN_num ha, decN_num hb, if_pos h]; rfl
theorem row_end {l : List Nat} {n k : Nat} (hl : l.length = k) (hw : Wf l) (hle : k ≤ 1000000) (hv : val l = n) : List.take k (l.map u64) = l.map u64 ∧ sTrim [.lst (l.map u64)] = some (numP n) := by
 refine ⟨List.take_of_length_le (by simp; omega), ?_⟩
 have := sTrim_map hw (by omega)
 rw [hv] at this
 exact this
theorem minus_ok : FnOk Tryz.prog base 181 (pureS sMinus) := by
 refine pure_of_vc hmix Tadd_ok globNone low181 fun args z hs hf => ?_
 unfold sMinus at hs
 split at hs
 case h_2 => cases hs
 rename_i xs ys
 split at hs
 case h_2 => cases hs
 rename_i a b ha hb
 split at hs
 case isFalse => cases hs
 rename_i hba
 cases hs
 obtain ⟨rfl, hla⟩ := decN_some ha
 obtain ⟨rfl, hlb⟩ := decN_some hb
 refine ⟨by simp [lf181], ?_⟩
 have la : len a = (limbs a).length := rfl
 have lb : len b = (limbs b).length := rfl
 have hcap := mul_capI (limbs a).length (by omega)
 simp [lf181, hcap]
 refine minus_loop (a := limbs a) (b := limbs b) (by simp [rowE]) (wf_limbs a) (wf_limbs b) (by omega) (by simp) (by simp) (by simp) (by simp) (by simp) (by simp) fun fr' l c hl hwl hc hv h5 => ?_
 have hlen := len_mono hba
 rw [List.take_of_length_le (by omega : (limbs b).length ≤ (limbs a).length), val_limbs, val_limbs] at hv
 have hvl := val_lt hwl
 rw [hl] at hvl
 have hc0 : c = 0 := by
  rcases Nat.eq_zero_or_pos c with h | h
  ·exact h
  ·have : c = 1 := by omega
   subst this
   omega
 subst hc0
 obtain ⟨hT, ht⟩ := row_end (n := a - b) hl hwl (by omega) (by omega)
 simp [h5, rowE, hl, hT, ht, mapO_au_take, mapO_au, touch_au, touch_au_take, Tadd_mu, Tadd_trim]
end Go.Proofs.YtepfpgnjpkcgmaaGreat

/-
 math/bits: Mul64.
-/
namespace Go.Proofs.YtepfpgnjpkcgmaaGreat
open Go Go.Abs Go.Limbs
variable {base : Prot}
set_option maxRecDepth 20000
attribute [local irreducible] vc
attribute [local simp] pureS touchV freezeL fuel shiftV u64 au
def mulH (x y : Nat) : Nat := x * y / B
def mulL (x y : Nat) : Nat := x * y % B
def sMul64 : List PVal → Option PVal
 | [.int .u64 x, .int .u64 y] => if 0 ≤ x ∧ x.toNat < B ∧ 0 ≤ y ∧ y.toNat < B then some (.tup [.int .u64 (mulH x.toNat y.toNat), .int .u64 (mulL x.toNat y.toNat)]) else none
 | _ => none
theorem sMul64_nat {x y : Nat} (hx : x < B) (hy : y < B) : sMul64 [.int .u64 x, .int .u64 y] = some (.tup [.int .u64 (mulH x y), .int .u64 (mulL x y)]) := by
 have : (0 : Int) ≤ x ∧ (x : Int).toNat < B ∧ (0 : Int) ≤ y ∧ (y : Int).toNat < B := by simp [hx, hy]
 show (if (0 : Int) ≤ x ∧ (x : Int).toNat < B ∧ (0 : Int) ≤ y ∧ (y : Int).toNat < B then _ else none) = _
 rw [if_pos this]
 simp
def lo32 (x : Nat) : Nat := x % 4294967296
def hi32 (x : Nat) : Nat := x / 4294967296
theorem low_mask {x : Nat} (hx : x < B) : IntKind.u64.wrap ((BitVec.ofNat IntKind.u64.bits x &&& 4294967295#IntKind.u64.bits).toNat : Int) = (lo32 x : Int) := by
 have h := and_wrap (a := x) (b := 4294967295) hx (by decide)
 rw [show (4294967295 : Nat) = 2 ^ 32 - 1 from rfl, Nat.and_two_pow_sub_one_eq_mod, bv_ofInt, bv_ofInt] at h
 exact h
theorem or_bits {x y : Nat} (hx : x < B) (hy : y < B) : IntKind.u64.wrap ((BitVec.ofNat IntKind.u64.bits x ||| BitVec.ofNat IntKind.u64.bits y).toNat : Int) = ((x ||| y : Nat) : Int) := by
 have h := or_wrap hx hy
 rw [bv_ofInt, bv_ofInt] at h
 exact h
theorem shr_word {x s : Nat} (h : s ≤ 64) : shiftI .shr .u64 x s = some (.int .u64 (x / 2 ^ s : Nat)) := by
 have h1 : ¬ (s : Int) < 0 := by omega
 have h2 : min s IntKind.u64.bits = s := Nat.min_eq_left h
 simp only [shiftI, if_neg h1, Int.toNat_natCast, h2, fdiv_pow]
theorem shr32 (x : Nat) : shiftI .shr .u64 x 32 = some (.int .u64 (hi32 x)) := shr_word (x := x) (s := 32) (by omega)
theorem shl_word {x s : Nat} (h : s ≤ 64) : shiftI .shl .u64 x s = some (.int .u64 (x * 2 ^ s % B : Nat)) := by
 have h1 : ¬ (s : Int) < 0 := by omega
 have h2 : min s IntKind.u64.bits = s := Nat.min_eq_left h
 simp only [shiftI, if_neg h1, Int.toNat_natCast, h2]
 have h3 : (x : Int) * 2 ^ s = ((x * 2 ^ s : Nat) : Int) := by simp
 rw [h3, wrap_um]
theorem mul64_ok : FnOk Tryz.prog base 189 (pureS sMul64) := by
 refine pure_of_vc hmix Tab.none_ok globNone low189 fun args z hs hf => ?_
 unfold sMul64 at hs
 split at hs
 case h_2 => cases hs
 rename_i x y
 split at hs
 case isFalse => cases hs
 rename_i hc
 cases hs
 obtain ⟨x, rfl⟩ := Int.eq_ofNat_of_zero_le hc.1
 obtain ⟨y, rfl⟩ := Int.eq_ofNat_of_zero_le hc.2.2.1
 simp only [Int.toNat_natCast] at hc ⊢
 obtain ⟨-, hx, -, hy⟩ := hc
 refine ⟨by simp [lf189], ?_⟩
 obtain ⟨q1, q2, q3, q4⟩ := Lib.mul64_hi x y hx hy
 have ml : IntKind.u64.wrap ((x : Int) * y) = (mulL x y : Int) := wrap_u_mul x y
 have mx := low_mask hx
 have my := low_mask hy
 have hb : hi32 x * hi32 y ≤ 18446744065119617025 := Lib.half_mul_le (by unfold hi32; rw [B_lit] at hx; omega) (by unfold hi32; rw [B_lit] at hy; omega)
 have hb2 : hi32 x * lo32 y ≤ 18446744065119617025 := Lib.half_mul_le (by unfold hi32; rw [B_lit] at hx; omega) (by unfold lo32; omega)
 have hb3 : lo32 x * hi32 y ≤ 18446744065119617025 := Lib.half_mul_le (by unfold lo32; omega) (by unfold hi32; rw [B_lit] at hy; omega)
 have hlt : mulH x y < B := by unfold mulH; rw [Nat.div_lt_iff_lt_mul B_pos]; exact Nat.mul_lt_mul'' hx hy
 rw [show x * y / 18446744073709551616 = mulH x y from rfl] at q4
 rw [show x % 4294967296 = lo32 x from rfl, show y % 4294967296 = lo32 y from rfl, show x / 4294967296 = hi32 x from rfl, show y / 4294967296 = hi32 y from rfl] at *
 obtain ⟨w0, hw0⟩ : ∃ w, w = lo32 x * lo32 y := ⟨_, rfl⟩
 obtain ⟨p1, hp1⟩ : ∃ w, w = hi32 x * lo32 y := ⟨_, rfl⟩
 obtain ⟨p2, hp2⟩ : ∃ w, w = lo32 x * hi32 y := ⟨_, rfl⟩
 obtain ⟨p3, hp3⟩ : ∃ w, w = hi32 x * hi32 y := ⟨_, rfl⟩
 rw [← hw0, ← hp1, ← hp2, ← hp3] at q4
 rw [← hw0] at q1
 rw [← hw0, ← hp1] at q2
 rw [← hw0, ← hp1, ← hp2] at q3
 rw [← hp3] at hb
 rw [← hp1] at hb2
 rw [← hp2] at hb3
 rw [show w0 / 4294967296 = hi32 w0 from rfl] at *
 obtain ⟨t, ht⟩ : ∃ t, t = p1 + hi32 w0 := ⟨_, rfl⟩
 rw [← ht] at q4 q2 q3
 rw [show t % 4294967296 = lo32 t from rfl] at q4 q3
 rw [show t / 4294967296 = hi32 t from rfl] at q4
 obtain ⟨w1, hw1⟩ : ∃ w, w = lo32 t + p2 := ⟨_, rfl⟩
 rw [← hw1] at q4 q3
 rw [show w1 / 4294967296 = hi32 w1 from rfl] at q4
 obtain ⟨s1, hs1⟩ : ∃ w, w = p3 + hi32 t := ⟨_, rfl⟩
 rw [← hs1] at q4
 have e : ∀ {m n k : Nat}, k = m * n → k < B → IntKind.u64.wrap ((m : Int) * n) = (k : Int) := fun {m n k} h h2 => by rw [wrap_u_mul, ← h, Nat.mod_eq_of_lt h2]
 have e2 : ∀ {m n k : Nat}, k = m + n → k < B → IntKind.u64.wrap ((m : Int) + n) = (k : Int) := fun {m n k} h h2 => by rw [wrap_u_mod, ← h, Nat.mod_eq_of_lt h2]
 have g0 := e hw0 q1
 have g1 := e hp1 (by rw [B_lit]; omega)
 have g2 := e2 ht q2
 have g3 := low_mask (x := t) q2
 have g4 := e hp2 (by rw [B_lit]; omega)
 have g5 := e2 hw1 q3
 have g6 := e hp3 (by rw [B_lit]; omega)
 have g7 := e2 hs1 (by omega)
 have g8 := e2 q4.symm hlt
 simp [-BitVec.toNat_and, lf189, shr32, ml, mx, my, g0, g1, g2, g3, g4, g5, g6, g7, g8]
end Go.Proofs.YtepfpgnjpkcgmaaGreat

/-
 nat: row, which adds a multiple of a number to a part of an own row of limbs.
-/
namespace Go.Proofs.YtepfpgnjpkcgmaaGreat
open Go Go.Abs Go.Limbs
variable {base : Prot}
set_option maxRecDepth 20000
attribute [local irreducible] vc
attribute [local simp] pureS touchV freezeL fuel shiftV u64 au
theorem set_same {α : Type} {l : List α} {k : Nat} {x : α} (h : l[k]? = some x) : l.set k x = l := by
 refine List.ext_getElem? fun i => ?_
 rw [List.getElem?_set]
 split
 ·rename_i e
  subst e
  have := (List.getElem?_eq_some_iff.1 h).1
  simp only [this, if_true, h]
 ·rfl
def join (p s q : List Nat) : List Nat := p ++ s ++ q
theorem join_get {p s q : List Nat} {i : Nat} (h : i < s.length) : (join p s q)[p.length + i]? = s[i]? := by
 unfold join
 rw [List.append_assoc, List.getElem?_append_right (by omega), List.getElem?_append_left (by omega)]
 congr 1
 omega
theorem join_set {p s q : List Nat} {i : Nat} (h : i < s.length) (x : Nat) : ((join p s q).map au).set (p.length + i) (AVal.p (.int .u64 x)) = (join p (s.set i x) q).map au := by
 unfold join
 rw [show AVal.p (.int .u64 x) = au x from rfl, ← List.map_set, List.append_assoc, List.append_assoc, List.set_append_right _ _ (by omega), List.set_append_left _ _ (by omega)]
 congr 5
 omega
theorem join_split (l : List Nat) {off n : Nat} (h : off + n ≤ l.length) : l = join (l.take off) ((l.drop off).take n) (l.drop (off + n)) := by
 unfold join
 rw [List.append_assoc, ← List.drop_drop, List.take_append_drop, List.take_append_drop]
theorem join_length (p s q : List Nat) : (join p s q).length = p.length + s.length + q.length := by unfold join; simp; omega
def decA : List AVal → Option (List Nat)
 | [] => some []
 | .p (.int .u64 z) :: r => if 0 ≤ z ∧ z.toNat < B then (match decA r with | some l => some (z.toNat :: l) | none => none) else none
 | _ :: _ => none
theorem decA_map : ∀ {l : List Nat}, Wf l → decA (l.map au) = some l
 | [], _ => rfl
 | x :: r, h => by
  have hx := h.head
  have : (0 : Int) ≤ (x : Int) ∧ (x : Int).toNat < B := by simpa using hx
  simp only [List.map_cons, au, decA, if_pos this]
  rw [decA_map h.tail]
  simp
theorem decA_some : ∀ {es : List AVal} {l : List Nat}, decA es = some l → es = l.map au ∧ Wf l
 | [], l, h => by simp [decA] at h; subst h; exact ⟨rfl, Wf.nil⟩
 | x :: r, l, h => by
  unfold decA at h
  split at h
  ·rename_i e; cases e
  ·rename_i z r' e
   cases e
   split at h
   ·rename_i hz
    cases hd : decA r with
    | none => rw [hd] at h; cases h
    | some l' =>
     rw [hd] at h
     cases h
     obtain ⟨h1, h2⟩ := decA_some hd
     obtain ⟨m, rfl⟩ := Int.eq_ofNat_of_zero_le hz.1
     exact ⟨by rw [h1]; simp [au], Wf.cons hz.2 h2⟩
   ·cases h
  ·cases h
def rowO (H : Heap) (k off n ver : Nat) : Option (List Nat) := match H[k]? with
 | some e => if e.size = 1 ∧ e.ver = ver ∧ e.froz = false ∧ e.ty = 157 then (match decA e.elems with | some l => if off + n ≤ l.length ∧ l.length ≤ 1000000 then some l else none | none => none) else none
 | none => none
theorem rowO_some {H : Heap} {k off n ver : Nat} {l : List Nat} (h : rowO H k off n ver = some l) : H[k]? = some (rowE ver l) ∧ Wf l ∧ off + n ≤ l.length ∧ l.length ≤ 1000000 := by
 unfold rowO at h
 split at h
 case h_2 => cases h
 rename_i e he
 split at h
 case isFalse => cases h
 rename_i hc
 split at h
 case h_2 => cases h
 rename_i l' hl
 split at h
 case isFalse => cases h
 rename_i hle
 cases h
 obtain ⟨h1, h2⟩ := decA_some hl
 refine ⟨?_, h2, hle.1, hle.2⟩
 obtain ⟨a, b, c, d, f⟩ := e
 simp only at hc h1
 obtain ⟨rfl, rfl, rfl, rfl⟩ := hc
 rw [he, h1]; rfl
theorem rowO_at {H : Heap} {k off n ver : Nat} {l : List Nat} (h : H[k]? = some (rowE ver l)) (hw : Wf l) (hl : off + n ≤ l.length) (hm : l.length ≤ 1000000) : rowO H k off n ver = some l := by
 unfold rowO
 rw [h]
 simp only [rowE, decA_map hw, hl, hm, and_self, if_true]
def part (l : List Nat) (off n v : Nat) : List Nat := join (l.take off) (fix n v) (l.drop (off + n))
theorem part_wf {l : List Nat} (h : Wf l) (off n v : Nat) : Wf (part l off n v) := ((h.take off).append (wf_fix n v)).append (h.drop _)
theorem part_length {l : List Nat} {off n : Nat} (h : off + n ≤ l.length) (v : Nat) : (part l off n v).length = l.length := by
 unfold part; rw [join_length, length_fix]; simp; omega
def seg (l : List Nat) (off n : Nat) : Nat := val ((l.drop off).take n)
theorem below_row {n : Nat} {H : Heap} (h : BelowH n H) (k ver : Nat) (l : List Nat) : BelowH n (H.set k (rowE ver l)) := by
 intro e he x hx y hy
 rcases List.mem_or_eq_of_mem_set he with h1 | h1
 ·exact h e h1 x hx y hy
 ·subst h1
  simp only [rowE, List.mem_map] at hx
  obtain ⟨m, _, rfl⟩ := hx
  simp [au, AVal.cells, PVal.cells] at hy
  subst hy
  exact .p _
def rowM : List AVal → Heap → Option (AVal × Heap)
 | [.own k off n ver, .p (.lst xs), .p (.int .u64 z)], H => match rowO H k off n ver, decN xs with
  | some l, some a => if 0 ≤ z ∧ z.toNat < B ∧ n = len a + 1 then some (.p (.tup []), H.set k (rowE ver (part l off n (seg l off n + a * z.toNat)))) else none
  | _, _ => none
 | _, _ => none
theorem rowM_at {H : Heap} {k off n ver z a : Nat} {l : List Nat} (h : H[k]? = some (rowE ver l)) (hw : Wf l) (hl : off + n ≤ l.length) (hm : l.length ≤ 1000000) (ha : len a ≤ 100000) (hz : z < B) (hn : n = len a + 1) :
  rowM [.own k off n ver, .p (.lst ((limbs a).map u64)), .p (.int .u64 z)] H = some (.p (.tup []), H.set k (rowE ver (part l off n (seg l off n + a * z)))) := by
 simp only [rowM, rowO_at h hw hl hm, decN_num ha]
 have : (0 : Int) ≤ z ∧ (z : Int).toNat < B ∧ n = len a + 1 := ⟨by omega, by simpa using hz, hn⟩
 rw [if_pos this]
 simp
def Trow : Tab := Tadd.with 189 (pureS sMul64)
theorem Trow_ok : TabOk Tryz.prog base Trow := Tab.with_ok Tadd_ok mul64_ok
theorem Trow_mu (f : FuncId) (a : List AVal) (H : Heap) : Trow.mu f a H = none := (rfl)
theorem Trow_mul : Trow.fn 189 = pureS sMul64 := (rfl)
theorem Trow_add : Trow.ex 190 = sAdd64 := (rfl)
theorem Trow_sub : Trow.ex 200 = sSub64 := (rfl)
theorem macH (x z c o : Nat) : mulH x z + addC (mulL x z) c 0 + addC o (addD (mulL x z) c 0) 0 = (x * z + c + o) / B := by
 unfold mulH mulL addC addD
 simp only [Nat.add_zero]
 exact mac_high
theorem macL (x z c o : Nat) : addD o (addD (mulL x z) c 0) 0 = (x * z + c + o) % B := by
 unfold mulL addD
 simp only [Nat.add_zero]
 exact mac_low
theorem wrap_mac {x z c o : Nat} (hx : x < B) (hz : z < B) (hc : c < B) (ho : o < B) :
  IntKind.u64.wrap (IntKind.u64.wrap ((mulH x z : Int) + addC (mulL x z) c 0) + addC o (addD (mulL x z) c 0) 0) = (((x * z + c + o) / B : Nat) : Int) := by
 have h1 := macH x z c o
 have h2 := mac_div_lt hx hz hc ho
 rw [wrap_u_add (by omega), wrap_u_add (by omega), h1]
theorem row_ok : MuOk Tryz.prog base 183 rowM := by
 refine own_of_vc' hmix Trow_ok globNone low183 fun args H r H' hs hf hbel => ?_
 unfold rowM at hs
 split at hs
 case h_2 => cases hs
 rename_i k off n ver xs z
 split at hs
 case h_2 => cases hs
 rename_i l a hl ha
 split at hs
 case isFalse => cases hs
 rename_i hz
 cases hs
 obtain ⟨hk, hw, hoff, hmax⟩ := rowO_some hl
 obtain ⟨rfl, hla⟩ := decN_some ha
 obtain ⟨z, rfl⟩ := Int.eq_ofNat_of_zero_le hz.1
 simp only [Int.toNat_natCast] at hz ⊢
 obtain ⟨-, hzB, hn⟩ := hz
 have hkl : k < H.length := (List.getElem?_eq_some_iff.1 hk).1
 refine ⟨by simp [lf183], by simp, below_row hbel _ _ _, .p _, ?_⟩
 have la : len a = (limbs a).length := rfl
 have wa := wf_limbs a
 obtain ⟨pre, hpre⟩ : ∃ p, p = l.take off := ⟨_, rfl⟩
 obtain ⟨post, hpost⟩ : ∃ p, p = l.drop (off + n) := ⟨_, rfl⟩
 obtain ⟨s0, hs0⟩ : ∃ p, p = (l.drop off).take n := ⟨_, rfl⟩
 have hs0l : s0.length = n := by rw [hs0]; simp; omega
 have hprel : pre.length = off := by rw [hpre]; simp; omega
 have hs0w : Wf s0 := by rw [hs0]; exact (hw.drop _).take _
 have hjoin : l = join pre s0 post := by rw [hpre, hs0, hpost]; exact join_split l hoff
 have hseg : seg l off n = val s0 := by rw [hs0]; rfl
 have hH0 : H = H.set k (rowE ver (join pre s0 post)) := by rw [← hjoin]; exact (set_same hk).symm
 rw [hseg]
 unfold part
 rw [← hpre, ← hpost]
 simp [lf183]
 simp only [lf183_B0, vc_block]
 refine loop_ind (fun fr H1 => ∃ (i : Nat) (s : List Nat) (c : Nat), i ≤ len a ∧ s.length = n ∧ Wf s ∧ c < B ∧ val (s.take i) + B ^ i * c = val (s0.take i) + val ((limbs a).take i) * z ∧ s.drop i = s0.drop i ∧ H1 = H.set k (rowE ver (join pre s post)) ∧
   fr 0 = .own k off n ver ∧ fr 1 = .p (.lst ((limbs a).map u64)) ∧ fr 2 = .p (.int .u64 z) ∧ fr 6 = .p (.int .u64 c) ∧ fr 12 = .p (.lst ((limbs a).map u64)) ∧ fr 13 = .p (.int .i64 (len a)) ∧ fr 14 = .p (.int .i64 i))
  (fun fr _ => len a - ivar (fr 14)) ⟨0, s0, 0, by omega, hs0l, hs0w, B_pos, by simp [val_nil], rfl, hH0, by simp, by simp, by simp, by simp, by simp, by simp [la], by simp⟩ ?_
 rintro fr H1 ⟨i, s, c, hi, hsl, hsw, hc, hv, hdr, rfl, h0, h1, h2, h6, h12, h13, h14⟩
 by_cases h : i < len a
 ·obtain ⟨x, hx⟩ : ∃ x, (limbs a)[i]? = some x := ⟨_, List.getElem?_eq_getElem (by omega)⟩
  have hxB := wa.get hx
  have his : i < s.length := by omega
  have hin : i < n := by omega
  obtain ⟨o, ho⟩ : ∃ o, s[i]? = some o := ⟨_, List.getElem?_eq_getElem his⟩
  have hoB := hsw.get ho
  have hMul := sMul64_nat hxB hzB
  have hA1 := sAdd64_zero (x := mulL x z) (y := c)
  have hA2 := sAdd64_zero (x := o) (y := addD (mulL x z) c 0)
  have hjg := join_get (p := pre) (q := post) his
  rw [ho, hprel] at hjg
  have hjs := join_set (p := pre) (q := post) his (addD o (addD (mulL x z) c 0) 0)
  rw [hprel] at hjs
  obtain ⟨W, hW⟩ : ∃ W, W = join pre s post := ⟨_, rfl⟩
  rw [← hW] at hjg hjs
  simp [h0, h1, h2, h6, h12, h13, h14, h, hx, hMul, hA1, hA2, hin, hkl, ← hW, hjg, rowE, Trow_mu, Trow_mul, Trow_add, wrap_succ (i := i) (by omega), ivar]
  refine ⟨⟨i + 1, by omega, s.set i (addD o (addD (mulL x z) c 0) 0), by simp [hsl], hsw.set _ (addD_lt _ _ _), (x * z + c + o) / B, mac_div_lt hxB hzB hc hoB, ?_, ?_, ?_, wrap_mac hxB hzB hc hoB, by omega⟩, by omega⟩
  ·have ho' : s0[i]? = some o := by
    rw [drop_get ho] at hdr
    have := congrArg List.head? hdr
    rw [List.head?_drop] at this
    simpa using this.symm
   rw [val_take_set his, val_take_succ hx, val_take_succ ho', macL, Nat.pow_succ]
   exact mac_step hv
  ·rw [List.drop_set_of_lt (by omega)]
   have := congrArg (List.drop 1) hdr
   rw [List.drop_drop, List.drop_drop] at this
   exact this
  ·rw [hjs]
 ·have hil : i = len a := by omega
  subst hil
  rw [List.take_of_length_le (show (limbs a).length ≤ len a by omega), val_limbs] at hv
  have his : len a < s.length := by omega
  obtain ⟨o, ho⟩ : ∃ o, s[len a]? = some o := ⟨_, List.getElem?_eq_getElem his⟩
  have hjg := join_get (p := pre) (q := post) his
  rw [ho, hprel] at hjg
  have hjs := join_set (p := pre) (q := post) his ((o + c) % B)
  rw [hprel] at hjs
  have hfin : s.set (len a) ((o + c) % B) = fix n (val s0 + a * z) := by
   have ho' : s0[len a]? = some o := by
    rw [drop_get ho] at hdr
    have := congrArg List.head? hdr
    rw [List.head?_drop] at this
    simpa using this.symm
   have e1 : val s0 = val (s0.take (len a)) + B ^ len a * o := by
    rw [← val_take_succ ho', List.take_of_length_le (by omega)]
   have e2 := val_take_set his ((o + c) % B)
   rw [List.take_of_length_le (by simp; omega)] at e2
   refine val_inj (hsw.set _ (Nat.mod_lt _ B_pos)) (wf_fix _ _) (by simp [length_fix, hsl]) ?_
   rw [val_fix, e2, e1, hn, Nat.pow_succ, show val (s0.take (len a)) + B ^ len a * o + a * z = val (s.take (len a)) + B ^ len a * (o + c) by rw [Nat.mul_add]; omega, top_mod (val_take_lt hsw _)]
  rw [hfin] at hjs
  obtain ⟨W, hW⟩ : ∃ W, W = join pre s post := ⟨_, rfl⟩
  rw [← hW] at hjg hjs
  have hwr := wrap_u_mod o c
  obtain ⟨tp, htp⟩ : ∃ t, t = (o + c) % B := ⟨_, rfl⟩
  rw [← htp] at hwr hjs
  have hnn : ((len a : Nat) : Int) < (len a : Int) + 1 := by omega
  simp [hnn, h0, h1, h6, h13, h14, ← la, hkl, ← hW, hjg, hjs, hn, rowE, hwr, ownQ]
end Go.Proofs.YtepfpgnjpkcgmaaGreat

/-
 nat: products.
-/
namespace Go.Proofs.YtepfpgnjpkcgmaaGreat
open Go Go.Abs Go.Limbs
variable {base : Prot}
set_option maxRecDepth 20000
attribute [local irreducible] vc
attribute [local simp] pureS touchV freezeL fuel shiftV u64 au
theorem seg_eq {l : List Nat} (h : Wf l) (off n : Nat) : seg l off n = val l / B ^ off % B ^ n := by
 unfold seg
 rw [val_take_eq (h.drop off), val_drop_eq h]
theorem part_val {l : List Nat} {off n v : Nat} (h : off + n ≤ l.length) (hv : v < B ^ n) : val (part l off n v) + B ^ off * seg l off n = val l + B ^ off * v := by
 have e : val l = val (join (l.take off) ((l.drop off).take n) (l.drop (off + n))) := by rw [← join_split l h]
 rw [e]
 unfold part join seg
 have h1 : (l.take off).length = off := by simp; omega
 have h2 : ((l.drop off).take n).length = n := by simp; omega
 rw [val_append, val_append, val_append, val_append, List.length_append, List.length_append, length_fix, h1, h2, val_fix_of hv]
 omega
def Tmul : Tab := (Tab.none.with 184 (pureS sTrim)).own 183 rowM
theorem Tmul_ok : TabOk Tryz.prog base Tmul := Tab.own_ok (Tab.with_ok Tab.none_ok trim_ok) row_ok
theorem Tmul_row : Tmul.mu 183 = rowM := (rfl)
theorem Tmul_mu (a : List AVal) (H : Heap) : Tmul.mu 184 a H = none := (rfl)
theorem Tmul_trim : Tmul.fn 184 = pureS sTrim := (rfl)
def sTimes : List PVal → Option PVal
 | [.lst xs, .lst ys] => match decN xs, decN ys with | some a, some b => some (numP (a * b)) | _, _ => none
 | _ => none
theorem sTimes_num {a b : Nat} (ha : len a ≤ 100000) (hb : len b ≤ 100000) : sTimes [.lst ((limbs a).map u64), .lst ((limbs b).map u64)] = some (.lst ((limbs (a * b)).map u64)) := by
 simp only [sTimes, decN_num ha, decN_num hb]; rfl
theorem times_step {a z i la : Nat} {l : List Nat} {t : Nat} (hw : Wf l) (hl : i + (la + 1) ≤ l.length) (ha : a < B ^ la) (hz : z < B) (ht : t < B ^ i) (hv : val l = a * t) :
  val (part l i (la + 1) (seg l i (la + 1) + a * z)) = a * (t + B ^ i * z) := by
 have hs : seg l i (la + 1) < B ^ la := by
  rw [seg_eq hw]
  refine Nat.lt_of_le_of_lt (Nat.mod_le _ _) ?_
  rw [Nat.div_lt_iff_lt_mul (Bpow_pos i), hv]
  exact Nat.mul_lt_mul'' ha ht
 have hsum : seg l i (la + 1) + a * z < B ^ (la + 1) := by
  have h1 : (a + 1) * z ≤ B ^ la * z := Nat.mul_le_mul_right _ ha
  have h2 : B ^ la * (z + 1) ≤ B ^ la * B := Nat.mul_le_mul_left _ hz
  rw [Nat.pow_succ]
  rw [Nat.mul_add, Nat.mul_one] at h2
  rw [Nat.add_mul, Nat.one_mul] at h1
  omega
 have := part_val hl hsum
 rw [hv, Nat.mul_add] at this
 rw [Nat.mul_add, Nat.mul_left_comm a]
 omega
theorem times_ok : FnOk Tryz.prog base 148 (pureS sTimes) := by
 refine pure_of_vc hmix Tmul_ok globNone low148 fun args z hs hf => ?_
 unfold sTimes at hs
 split at hs
 case h_2 => cases hs
 rename_i xs ys
 split at hs
 case h_2 => cases hs
 rename_i a b ha hb
 cases hs
 obtain ⟨rfl, hla⟩ := decN_some ha
 obtain ⟨rfl, hlb⟩ := decN_some hb
 refine ⟨by simp [lf148], ?_⟩
 have la : (limbs a).length = len a := rfl
 have lb : (limbs b).length = len b := rfl
 have wb := wf_limbs b
 obtain ⟨M, hM⟩ : ∃ M, M = len a + len b := ⟨_, rfl⟩
 obtain ⟨N, hN⟩ : ∃ N, N = M + 1 := ⟨_, rfl⟩
 have hcap := mul_capI N (by omega)
 have hw1 : IntKind.i64.wrap ((len a : Int) + len b) = (M : Int) := by rw [← Int.natCast_add, ← hM]; exact wrap_i (by omega)
 have hw2 : IntKind.i64.wrap ((M : Int) + 1) = (N : Int) := by rw [wrap_succ (i := M) (by omega), hN]
 simp [lf148, la, lb, hw1, hw2, hcap]
 simp only [lf148_B0, vc_block]
 refine loop_ind (fun fr H => ∃ (i : Nat) (l : List Nat), i ≤ len b ∧ l.length = N ∧ Wf l ∧ val l = a * val ((limbs b).take i) ∧ H = [rowE 0 l] ∧ fr 0 = .p (.lst ((limbs a).map u64)) ∧ fr 5 = .own 0 0 N 0 ∧
   fr 15 = .p (.lst ((limbs b).map u64)) ∧ fr 16 = .p (.int .i64 (len b)) ∧ fr 17 = .p (.int .i64 i))
  (fun fr _ => len b - ivar (fr 17)) ⟨0, List.replicate N 0, by omega, by simp, Wf.zeros _, by simp [val_zeros, val_nil], by simp [rowE], by simp, by simp, by simp, by simp, by simp⟩ ?_
 rintro fr H ⟨i, l, hi, hl, hwl, hv, rfl, h0, h5, h15, h16, h17⟩
 by_cases h : i < len b
 ·obtain ⟨x, hx⟩ : ∃ x, (limbs b)[i]? = some x := ⟨_, List.getElem?_eq_getElem (by omega)⟩
  have hxB := wb.get hx
  obtain ⟨J, hJ⟩ : ∃ J, J = i + len a := ⟨_, rfl⟩
  obtain ⟨K, hK⟩ : ∃ K, K = J + 1 := ⟨_, rfl⟩
  have hw3 : IntKind.i64.wrap ((i : Int) + len a) = (J : Int) := by rw [← Int.natCast_add, ← hJ]; exact wrap_i (by omega)
  have hw4 : IntKind.i64.wrap ((J : Int) + 1) = (K : Int) := by rw [wrap_succ (i := J) (by omega), hK]
  have hiK : i ≤ K := by omega
  have hKN : K ≤ N := by omega
  have hsub : ((K : Int) - i).toNat = len a + 1 := by omega
  have hrow := rowM_at (H := [rowE 0 l]) (k := 0) (off := i) (n := len a + 1) (ver := 0) (z := x) (a := a) (l := l) rfl hwl (by omega) (by omega) hla hxB rfl
  have hst := times_step hwl (by omega) (lt_len a) hxB (val_take_lt wb i) hv (z := x)
  obtain ⟨L, hL⟩ : ∃ L, L = part l i (len a + 1) (seg l i (len a + 1) + a * x) := ⟨_, rfl⟩
  have hLw : Wf L := by rw [hL]; exact part_wf hwl _ _ _
  have hLl : L.length = N := by rw [hL, part_length (by omega), hl]
  rw [← hL] at hrow hst
  simp [rowE] at hrow
  simp [h0, h5, h15, h16, h17, h, getE hx, la, lb, hw3, hw4, hiK, hKN, hsub, hrow, rowE, Tmul_row, wrap_succ (i := i) (by omega), ivar]
  exact ⟨⟨i + 1, by omega, L, hLl, hLw, by rw [val_take_succ hx]; exact hst, rfl, by omega⟩, by omega⟩
 ·have hil : i = len b := by omega
  subst hil
  rw [List.take_of_length_le (by omega), val_limbs] at hv
  obtain ⟨hT, ht⟩ := row_end hl hwl (by omega) hv
  simp [h5, h16, h17, rowE, hl, hT, ht, mapO_au_take, mapO_au, touch_au, touch_au_take, Tmul_mu, Tmul_trim]
end Go.Proofs.YtepfpgnjpkcgmaaGreat

/-
 nat: less and more, which take a multiple of a number from a part of an own row, or add a number to it.
-/
namespace Go.Proofs.YtepfpgnjpkcgmaaGreat
open Go Go.Abs Go.Limbs
variable {base : Prot}
set_option maxRecDepth 20000
attribute [local irreducible] vc
attribute [local simp] pureS touchV freezeL fuel shiftV u64 au
theorem drop_next {s s0 : List Nat} {i o : Nat} (hdr : s.drop i = s0.drop i) (ho : s[i]? = some o) (x : Nat) : s0[i]? = some o ∧ (s.set i x).drop (i + 1) = s0.drop (i + 1) := by
 constructor
 ·rw [drop_get ho] at hdr
  have := congrArg List.head? hdr
  rw [List.head?_drop] at this
  simpa using this.symm
 ·rw [List.drop_set_of_lt (by omega)]
  have := congrArg (List.drop 1) hdr
  rw [List.drop_drop, List.drop_drop] at this
  exact this
def moreM : List AVal → Heap → Option (AVal × Heap)
 | [.own k off n ver, .p (.lst xs)], H => match rowO H k off n ver, decN xs with
  | some l, some a => if n = len a + 1 then some (.p (.tup []), H.set k (rowE ver (part l off n (seg l off n + a)))) else none
  | _, _ => none
 | _, _ => none
theorem moreM_at {H : Heap} {k off n ver a : Nat} {l : List Nat} (h : H[k]? = some (rowE ver l)) (hw : Wf l) (hl : off + n ≤ l.length) (hm : l.length ≤ 1000000) (ha : len a ≤ 100000) (hn : n = len a + 1) :
  moreM [.own k off n ver, .p (.lst ((limbs a).map u64))] H = some (.p (.tup []), H.set k (rowE ver (part l off n (seg l off n + a)))) := by
 simp only [moreM, rowO_at h hw hl hm, decN_num ha]
 rw [if_pos hn]
theorem more_ok : MuOk Tryz.prog base 205 moreM := by
 refine own_of_vc' hmix Trow_ok globNone low205 fun args H r H' hs hf hbel => ?_
 unfold moreM at hs
 split at hs
 case h_2 => cases hs
 rename_i k off n ver xs
 split at hs
 case h_2 => cases hs
 rename_i l a hl ha
 split at hs
 case isFalse => cases hs
 rename_i hn
 cases hs
 obtain ⟨hk, hw, hoff, hmax⟩ := rowO_some hl
 obtain ⟨rfl, hla⟩ := decN_some ha
 have hkl : k < H.length := (List.getElem?_eq_some_iff.1 hk).1
 refine ⟨by simp [lf205], by simp, below_row hbel _ _ _, .p _, ?_⟩
 have la : len a = (limbs a).length := rfl
 have wa := wf_limbs a
 obtain ⟨pre, hpre⟩ : ∃ p, p = l.take off := ⟨_, rfl⟩
 obtain ⟨post, hpost⟩ : ∃ p, p = l.drop (off + n) := ⟨_, rfl⟩
 obtain ⟨s0, hs0⟩ : ∃ p, p = (l.drop off).take n := ⟨_, rfl⟩
 have hs0l : s0.length = n := by rw [hs0]; simp; omega
 have hprel : pre.length = off := by rw [hpre]; simp; omega
 have hs0w : Wf s0 := by rw [hs0]; exact (hw.drop _).take _
 have hjoin : l = join pre s0 post := by rw [hpre, hs0, hpost]; exact join_split l hoff
 have hseg : seg l off n = val s0 := by rw [hs0]; rfl
 have hH0 : H = H.set k (rowE ver (join pre s0 post)) := by rw [← hjoin]; exact (set_same hk).symm
 rw [hseg]
 unfold part
 rw [← hpre, ← hpost]
 simp [lf205]
 simp only [lf205_B0, vc_block]
 refine loop_ind (fun fr H1 => ∃ (i : Nat) (s : List Nat) (c : Nat), i ≤ len a ∧ s.length = n ∧ Wf s ∧ c ≤ 1 ∧ val (s.take i) + B ^ i * c = val (s0.take i) + val ((limbs a).take i) ∧ s.drop i = s0.drop i ∧ H1 = H.set k (rowE ver (join pre s post)) ∧
   fr 0 = .own k off n ver ∧ fr 1 = .p (.lst ((limbs a).map u64)) ∧ fr 4 = .p (.int .u64 c) ∧ fr 7 = .p (.lst ((limbs a).map u64)) ∧ fr 8 = .p (.int .i64 (len a)) ∧ fr 9 = .p (.int .i64 i))
  (fun fr _ => len a - ivar (fr 9)) ⟨0, s0, 0, by omega, hs0l, hs0w, by omega, by simp [val_nil], rfl, hH0, by simp, by simp, by simp, by simp, by simp [la], by simp⟩ ?_
 rintro fr H1 ⟨i, s, c, hi, hsl, hsw, hc, hv, hdr, rfl, h0, h1, h4, h7, h8, h9⟩
 by_cases h : i < len a
 ·obtain ⟨x, hx⟩ : ∃ x, (limbs a)[i]? = some x := ⟨_, List.getElem?_eq_getElem (by omega)⟩
  have hxB := wa.get hx
  have his : i < s.length := by omega
  have hin : i < n := by omega
  obtain ⟨o, ho⟩ : ∃ o, s[i]? = some o := ⟨_, List.getElem?_eq_getElem his⟩
  have hoB := hsw.get ho
  have hA := sAdd64_nat (x := o) (y := x) hc
  have hjg := join_get (p := pre) (q := post) his
  rw [ho, hprel] at hjg
  have hjs := join_set (p := pre) (q := post) his (addD o x c)
  rw [hprel] at hjs
  obtain ⟨W, hW⟩ : ∃ W, W = join pre s post := ⟨_, rfl⟩
  rw [← hW] at hjg hjs
  obtain ⟨d1, d2⟩ := drop_next hdr ho (addD o x c)
  simp [h0, h1, h4, h7, h8, h9, h, hx, hA, hin, hkl, ← hW, hjg, rowE, Trow_add, wrap_succ (i := i) (by omega), ivar]
  refine ⟨⟨i + 1, by omega, s.set i (addD o x c), by simp [hsl], hsw.set _ (addD_lt _ _ _), addC o x c, add_carry hoB hxB hc, ?_, d2, by rw [hjs], rfl, by omega⟩, by omega⟩
  rw [val_take_set his, val_take_succ hx, val_take_succ d1, Nat.pow_succ]
  exact add_step hv
 ·have hil : i = len a := by omega
  subst hil
  rw [List.take_of_length_le (show (limbs a).length ≤ len a by omega), val_limbs] at hv
  have his : len a < s.length := by omega
  obtain ⟨o, ho⟩ : ∃ o, s[len a]? = some o := ⟨_, List.getElem?_eq_getElem his⟩
  have hjg := join_get (p := pre) (q := post) his
  rw [ho, hprel] at hjg
  have hjs := join_set (p := pre) (q := post) his ((o + c) % B)
  rw [hprel] at hjs
  have hfin : s.set (len a) ((o + c) % B) = fix n (val s0 + a) := by
   obtain ⟨ho', -⟩ := drop_next hdr ho 0
   have e1 : val s0 = val (s0.take (len a)) + B ^ len a * o := by
    rw [← val_take_succ ho', List.take_of_length_le (by omega)]
   have e2 := val_take_set his ((o + c) % B)
   rw [List.take_of_length_le (by simp; omega)] at e2
   refine val_inj (hsw.set _ (Nat.mod_lt _ B_pos)) (wf_fix _ _) (by simp [length_fix, hsl]) ?_
   rw [val_fix, e2, e1, hn, Nat.pow_succ, show val (s0.take (len a)) + B ^ len a * o + a = val (s.take (len a)) + B ^ len a * (o + c) by rw [Nat.mul_add]; omega, top_mod (val_take_lt hsw _)]
  rw [hfin] at hjs
  obtain ⟨W, hW⟩ : ∃ W, W = join pre s post := ⟨_, rfl⟩
  rw [← hW] at hjg hjs
  have hwr := wrap_u_mod o c
  obtain ⟨tp, htp⟩ : ∃ t, t = (o + c) % B := ⟨_, rfl⟩
  rw [← htp] at hwr hjs
  have hnn : ((len a : Nat) : Int) < (len a : Int) + 1 := by omega
  simp [hnn, h0, h1, h4, h8, h9, ← la, hkl, ← hW, hjg, hjs, hn, rowE, hwr, ownQ]
def lessM : List AVal → Heap → Option (AVal × Heap)
 | [.own k off n ver, .p (.lst xs), .p (.int .u64 z)], H => match rowO H k off n ver, decN xs with
  | some l, some a => if 0 ≤ z ∧ z.toNat < B ∧ n = len a + 1 then
    some (.p (.bool (decide (seg l off n < a * z.toNat))), H.set k (rowE ver (part l off n (seg l off n + B ^ n - a * z.toNat)))) else none
  | _, _ => none
 | _, _ => none
theorem lessM_at {H : Heap} {k off n ver z a : Nat} {l : List Nat} (h : H[k]? = some (rowE ver l)) (hw : Wf l) (hl : off + n ≤ l.length) (hm : l.length ≤ 1000000) (ha : len a ≤ 100000) (hz : z < B) (hn : n = len a + 1) :
  lessM [.own k off n ver, .p (.lst ((limbs a).map u64)), .p (.int .u64 z)] H = some (.p (.bool (decide (seg l off n < a * z))), H.set k (rowE ver (part l off n (seg l off n + B ^ n - a * z)))) := by
 simp only [lessM, rowO_at h hw hl hm, decN_num ha]
 have : (0 : Int) ≤ z ∧ (z : Int).toNat < B ∧ n = len a + 1 := ⟨by omega, by simpa using hz, hn⟩
 rw [if_pos this]
 simp
theorem lessH (y z c : Nat) : mulH y z + addC (mulL y z) c 0 = (y * z + c) / B := by
 unfold mulH mulL addC
 simp only [Nat.add_zero]
 exact less_high
theorem lessL (y z c : Nat) : addD (mulL y z) c 0 = (y * z + c) % B := by
 unfold mulL addD
 simp only [Nat.add_zero]
 exact less_low
theorem wrap_less {y z c : Nat} (hy : y < B) (hz : z < B) (hc : c < B) : IntKind.u64.wrap ((mulH y z : Int) + addC (mulL y z) c 0) = (((y * z + c) / B : Nat) : Int) := by
 have h2 := mac_div_lt hy hz hc B_pos
 rw [Nat.add_zero] at h2
 rw [wrap_u_add (by rw [lessH]; exact h2), lessH]
theorem less_end {n b z w v0 vf : Nat} (hv : vf + b * z = v0 + B ^ n * w) (hf : vf < B ^ n) (hb : b * z < B ^ n) (hw : w ≤ 1) : decide (0 < w) = decide (v0 < b * z) ∧ (v0 + B ^ n - b * z) % B ^ n = vf := by
 rcases (by omega : w = 0 ∨ w = 1) with rfl | rfl
 ·refine ⟨decide_eq_decide.2 ⟨fun h => by omega, fun h => by omega⟩, ?_⟩
  rw [show v0 + B ^ n - b * z = vf + B ^ n by omega, Nat.add_mod_right, Nat.mod_eq_of_lt hf]
 ·refine ⟨decide_eq_decide.2 ⟨fun h => by omega, fun h => by omega⟩, ?_⟩
  rw [show v0 + B ^ n - b * z = vf by omega, Nat.mod_eq_of_lt hf]
theorem less_ok : MuOk Tryz.prog base 204 lessM := by
 refine own_of_vc' hmix Trow_ok globNone low204 fun args H r H' hs hf hbel => ?_
 unfold lessM at hs
 split at hs
 case h_2 => cases hs
 rename_i k off n ver xs z
 split at hs
 case h_2 => cases hs
 rename_i l a hl ha
 split at hs
 case isFalse => cases hs
 rename_i hz
 cases hs
 obtain ⟨hk, hw, hoff, hmax⟩ := rowO_some hl
 obtain ⟨rfl, hla⟩ := decN_some ha
 obtain ⟨z, rfl⟩ := Int.eq_ofNat_of_zero_le hz.1
 simp only [Int.toNat_natCast] at hz ⊢
 obtain ⟨-, hzB, hn⟩ := hz
 have hkl : k < H.length := (List.getElem?_eq_some_iff.1 hk).1
 refine ⟨by simp [lf204], by simp, below_row hbel _ _ _, .p _, ?_⟩
 have la : len a = (limbs a).length := rfl
 have wa := wf_limbs a
 obtain ⟨pre, hpre⟩ : ∃ p, p = l.take off := ⟨_, rfl⟩
 obtain ⟨post, hpost⟩ : ∃ p, p = l.drop (off + n) := ⟨_, rfl⟩
 obtain ⟨s0, hs0⟩ : ∃ p, p = (l.drop off).take n := ⟨_, rfl⟩
 have hs0l : s0.length = n := by rw [hs0]; simp; omega
 have hprel : pre.length = off := by rw [hpre]; simp; omega
 have hs0w : Wf s0 := by rw [hs0]; exact (hw.drop _).take _
 have hjoin : l = join pre s0 post := by rw [hpre, hs0, hpost]; exact join_split l hoff
 have hseg : seg l off n = val s0 := by rw [hs0]; rfl
 have hH0 : H = H.set k (rowE ver (join pre s0 post)) := by rw [← hjoin]; exact (set_same hk).symm
 rw [hseg]
 unfold part
 rw [← hpre, ← hpost]
 simp [lf204]
 simp only [lf204_B0, vc_block]
 refine loop_ind (fun fr H1 => ∃ (i : Nat) (s : List Nat) (c w : Nat), i ≤ len a ∧ s.length = n ∧ Wf s ∧ c < B ∧ w ≤ 1 ∧ val (s.take i) + val ((limbs a).take i) * z = val (s0.take i) + B ^ i * (c + w) ∧ s.drop i = s0.drop i ∧ H1 = H.set k (rowE ver (join pre s post)) ∧
   fr 0 = .own k off n ver ∧ fr 1 = .p (.lst ((limbs a).map u64)) ∧ fr 2 = .p (.int .u64 z) ∧ fr 7 = .p (.int .u64 c) ∧ fr 8 = .p (.int .u64 w) ∧ fr 14 = .p (.lst ((limbs a).map u64)) ∧ fr 15 = .p (.int .i64 (len a)) ∧ fr 16 = .p (.int .i64 i))
  (fun fr _ => len a - ivar (fr 16)) ⟨0, s0, 0, 0, by omega, hs0l, hs0w, B_pos, by omega, by simp [val_nil], rfl, hH0, by simp, by simp, by simp, by simp, by simp, by simp, by simp [la], by simp⟩ ?_
 rintro fr H1 ⟨i, s, c, w, hi, hsl, hsw, hc, hwl, hv, hdr, rfl, h0, h1, h2, h7, h8, h14, h15, h16⟩
 by_cases h : i < len a
 ·obtain ⟨x, hx⟩ : ∃ x, (limbs a)[i]? = some x := ⟨_, List.getElem?_eq_getElem (by omega)⟩
  have hxB := wa.get hx
  have his : i < s.length := by omega
  have hin : i < n := by omega
  obtain ⟨o, ho⟩ : ∃ o, s[i]? = some o := ⟨_, List.getElem?_eq_getElem his⟩
  have hoB := hsw.get ho
  have hMul := sMul64_nat hxB hzB
  have hA1 := sAdd64_zero (x := mulL x z) (y := c)
  have hA2 := sSub64_nat (x := o) (y := addD (mulL x z) c 0) hwl
  have hjg := join_get (p := pre) (q := post) his
  rw [ho, hprel] at hjg
  have hjs := join_set (p := pre) (q := post) his (subD o (addD (mulL x z) c 0) w)
  rw [hprel] at hjs
  obtain ⟨W, hW⟩ : ∃ W, W = join pre s post := ⟨_, rfl⟩
  rw [← hW] at hjg hjs
  obtain ⟨d1, d2⟩ := drop_next hdr ho (subD o (addD (mulL x z) c 0) w)
  simp [h0, h1, h2, h7, h8, h14, h15, h16, h, hx, hMul, hA1, hA2, hin, hkl, ← hW, hjg, rowE, Trow_mu, Trow_mul, Trow_add, Trow_sub, wrap_succ (i := i) (by omega), ivar]
  refine ⟨⟨i + 1, by omega, s.set i (subD o (addD (mulL x z) c 0) w), by simp [hsl], hsw.set _ (subD_lt _ _ _), (x * z + c) / B, by have := mac_div_lt hxB hzB hc B_pos; rwa [Nat.add_zero] at this,
   subC o (addD (mulL x z) c 0) w, subC_le _ _ _, ?_, d2, by rw [hjs], wrap_less hxB hzB hc, rfl, by omega⟩, by omega⟩
  rw [val_take_set his, val_take_succ hx, val_take_succ d1, Nat.pow_succ, lessL]
  exact less_step hoB hwl hv
 ·have hil : i = len a := by omega
  subst hil
  rw [List.take_of_length_le (show (limbs a).length ≤ len a by omega), val_limbs] at hv
  have his : len a < s.length := by omega
  obtain ⟨o, ho⟩ : ∃ o, s[len a]? = some o := ⟨_, List.getElem?_eq_getElem his⟩
  have hoB := hsw.get ho
  have hjg := join_get (p := pre) (q := post) his
  rw [ho, hprel] at hjg
  have hjs := join_set (p := pre) (q := post) his (subD o c w)
  rw [hprel] at hjs
  have hA := sSub64_nat (x := o) (y := c) hwl
  obtain ⟨ho', -⟩ := drop_next hdr ho 0
  have e1 : val s0 = val (s0.take (len a)) + B ^ len a * o := by
   rw [← val_take_succ ho', List.take_of_length_le (by omega)]
  have e2 := val_take_set his (subD o c w)
  rw [List.take_of_length_le (by simp; omega)] at e2
  have hvf : val (s.set (len a) (subD o c w)) + a * z = val s0 + B ^ n * subC o c w := by
   have e3 := sub_eq hoB hc hwl
   rw [e1, e2, hn, Nat.pow_succ]
   generalize subD o c w = d at *
   generalize subC o c w = f at *
   have e4 : B ^ len a * (d + (c + w)) = B ^ len a * (o + B * f) := by rw [e3]
   rw [Nat.mul_add, Nat.mul_add _ o, ← Nat.mul_assoc] at e4
   omega
  have hlt := val_lt (hsw.set (len a) (subD_lt o c w))
  rw [List.length_set, hsl] at hlt
  have hbz : a * z < B ^ n := by
   rw [hn, Nat.pow_succ]
   exact Nat.mul_lt_mul'' (lt_len a) hzB
  obtain ⟨hdec, hmod⟩ := less_end hvf hlt hbz (subC_le _ _ _)
  have hfin : s.set (len a) (subD o c w) = fix n (val s0 + B ^ n - a * z) := by
   refine val_inj (hsw.set _ (subD_lt _ _ _)) (wf_fix _ _) (by simp [length_fix, hsl]) ?_
   rw [val_fix, hmod]
  rw [hfin] at hjs
  obtain ⟨W, hW⟩ : ∃ W, W = join pre s post := ⟨_, rfl⟩
  rw [← hW] at hjg hjs
  have hnn : ((len a : Nat) : Int) < (len a : Int) + 1 := by omega
  subst hn
  simp [hnn, h0, h1, h7, h8, h15, h16, ← la, hkl, ← hW, hjg, hjs, hA, rowE, Trow_sub, ownQ]
  exact decide_eq_decide.1 hdec
end Go.Proofs.YtepfpgnjpkcgmaaGreat

/-
 math/bits: Len64 and LeadingZeros64.
-/
namespace Go.Proofs.YtepfpgnjpkcgmaaGreat
open Go Go.Abs Go.Limbs
variable {base : Prot}
set_option maxRecDepth 20000
attribute [local irreducible] vc
attribute [local simp] pureS touchV freezeL fuel shiftV u64 au
def sLen64 : List PVal → Option PVal
 | [.int .u64 x] => if 0 ≤ x ∧ x.toNat < B then some (.int .i64 (size x.toNat)) else none
 | _ => none
theorem sLen64_nat {x : Nat} (hx : x < B) : sLen64 [.int .u64 x] = some (.int .i64 (size x)) := by
 show (if (0 : Int) ≤ x ∧ (x : Int).toNat < B then _ else none) = _
 rw [if_pos ⟨by omega, by simpa using hx⟩]
 simp
def tab8 : List UInt8 := [0, 1, 2, 2, 3, 3, 3, 3, 4, 4, 4, 4, 4, 4, 4, 4, 5, 5, 5, 5, 5, 5, 5, 5, 5, 5, 5, 5, 5, 5, 5, 5, 6, 6, 6, 6, 6, 6, 6, 6, 6, 6, 6, 6, 6, 6, 6, 6, 6, 6, 6, 6, 6, 6, 6, 6, 6, 6, 6, 6, 6, 6, 6, 6, 7, 7, 7, 7, 7, 7, 7, 7, 7, 7, 7, 7, 7, 7, 7, 7, 7, 7, 7, 7, 7, 7, 7, 7, 7, 7, 7, 7, 7, 7, 7, 7, 7, 7, 7, 7, 7, 7, 7, 7, 7, 7, 7, 7, 7, 7, 7, 7, 7, 7, 7, 7, 7, 7, 7, 7, 7, 7, 7, 7, 7, 7, 7, 7, 8, 8, 8, 8, 8, 8, 8, 8, 8, 8, 8, 8, 8, 8, 8, 8, 8, 8, 8, 8, 8, 8, 8, 8, 8, 8, 8, 8, 8, 8, 8, 8, 8, 8, 8, 8, 8, 8, 8, 8, 8, 8, 8, 8, 8, 8, 8, 8, 8, 8, 8, 8, 8, 8, 8, 8, 8, 8, 8, 8, 8, 8, 8, 8, 8, 8, 8, 8, 8, 8, 8, 8, 8, 8, 8, 8, 8, 8, 8, 8, 8, 8, 8, 8, 8, 8, 8, 8, 8, 8, 8, 8, 8, 8, 8, 8, 8, 8, 8, 8, 8, 8, 8, 8, 8, 8, 8, 8, 8, 8, 8, 8, 8, 8, 8, 8, 8, 8, 8, 8, 8, 8, 8, 8, 8, 8, 8, 8]
theorem tab8_get : ∀ y, y < 256 → tab8[y]? = some (UInt8.ofNat (size y)) := by decide +kernel
theorem size8 {y : Nat} (h : y < 256) : size y ≤ 8 := size_le_iff.2 (by omega)
theorem tab8_at {y : Nat} (h : y < 256) : ∃ b : UInt8, [0, 1, 2, 2, 3, 3, 3, 3, 4, 4, 4, 4, 4, 4, 4, 4, 5, 5, 5, 5, 5, 5, 5, 5, 5, 5, 5, 5, 5, 5, 5, 5, 6, 6, 6, 6, 6, 6, 6, 6, 6, 6, 6, 6, 6, 6, 6, 6, 6, 6, 6, 6, 6, 6, 6, 6, 6, 6, 6, 6, 6, 6, 6, 6, 7, 7, 7, 7, 7, 7, 7, 7, 7, 7, 7, 7, 7, 7, 7, 7, 7, 7, 7, 7, 7, 7, 7, 7, 7, 7, 7, 7, 7, 7, 7, 7, 7, 7, 7, 7, 7, 7, 7, 7, 7, 7, 7, 7, 7, 7, 7, 7, 7, 7, 7, 7, 7, 7, 7, 7, 7, 7, 7, 7, 7, 7, 7, 7, 8, 8, 8, 8, 8, 8, 8, 8, 8, 8, 8, 8, 8, 8, 8, 8, 8, 8, 8, 8, 8, 8, 8, 8, 8, 8, 8, 8, 8, 8, 8, 8, 8, 8, 8, 8, 8, 8, 8, 8, 8, 8, 8, 8, 8, 8, 8, 8, 8, 8, 8, 8, 8, 8, 8, 8, 8, 8, 8, 8, 8, 8, 8, 8, 8, 8, 8, 8, 8, 8, 8, 8, 8, 8, 8, 8, 8, 8, 8, 8, 8, 8, 8, 8, 8, 8, 8, 8, 8, 8, 8, 8, 8, 8, 8, 8, 8, 8, 8, 8, 8, 8, 8, 8, 8, 8, 8, 8, 8, 8, 8, 8, 8, 8, 8, 8, 8, 8, 8, 8, 8, 8, 8, 8, 8, 8, 8, 8][y]? = some b ∧ b.toNat = size y :=
 ⟨UInt8.ofNat (size y), tab8_get y h, by rw [UInt8.toNat_ofNat', Nat.mod_eq_of_lt (by have := size8 h; omega)]⟩
theorem size_shr {x k : Nat} (h : 2 ^ k ≤ x) : size x = size (x / 2 ^ k) + k := by
 have h0 : x / 2 ^ k ≠ 0 := by
  have : 1 ≤ x / 2 ^ k := (Nat.le_div_iff_mul_le (Nat.two_pow_pos k)).2 (by omega)
  omega
 have h1 := size_le h0
 have h2 := lt_size (x / 2 ^ k)
 have h3 := size_pos h0
 rw [show size (x / 2 ^ k) + k = (size (x / 2 ^ k) - 1 + k) + 1 by omega]
 refine size_eq ?_ ?_
 ·rw [Nat.pow_add]
  exact (Nat.le_div_iff_mul_le (Nat.two_pow_pos k)).1 h1
 ·rw [show size (x / 2 ^ k) - 1 + k + 1 = size (x / 2 ^ k) + k by omega, Nat.pow_add]
  exact (Nat.div_lt_iff_lt_mul (Nat.two_pow_pos k)).1 h2
theorem shr16 (x : Nat) : shiftI .shr .u64 x 16 = some (.int .u64 (x / 65536 : Nat)) := shr_word (x := x) (s := 16) (by omega)
theorem shr8 (x : Nat) : shiftI .shr .u64 x 8 = some (.int .u64 (x / 256 : Nat)) := shr_word (x := x) (s := 8) (by omega)
theorem shr32' (x : Nat) : shiftI .shr .u64 x 32 = some (.int .u64 (x / 4294967296 : Nat)) := shr_word (x := x) (s := 32) (by omega)
theorem wlit : IntKind.i64.wrap 8 = 8 ∧ IntKind.i64.wrap 16 = 16 ∧ IntKind.i64.wrap 24 = 24 ∧ IntKind.i64.wrap 32 = 32 ∧ IntKind.i64.wrap 40 = 40 ∧ IntKind.i64.wrap 48 = 48 ∧ IntKind.i64.wrap 56 = 56 := by decide
theorem len64_ok : FnOk Tryz.prog base 209 (pureS sLen64) := by
 refine pure_of_vc hmix Tab.none_ok globNone low209 fun args z hs hf => ?_
 unfold sLen64 at hs
 split at hs
 case h_2 => cases hs
 rename_i x
 split at hs
 case isFalse => cases hs
 rename_i hc
 cases hs
 obtain ⟨x, rfl⟩ := Int.eq_ofNat_of_zero_le hc.1
 simp only [Int.toNat_natCast] at hc ⊢
 obtain ⟨-, hx⟩ := hc
 rw [B_lit] at hx
 refine ⟨by simp [lf209], ?_⟩
 by_cases h0 : 4294967296 ≤ x
 ·obtain ⟨y0, hy0⟩ : ∃ y, y = x / 4294967296 := ⟨_, rfl⟩
  have e0 := shr32' x
  rw [← hy0] at e0
  have i0 : (4294967296 : Int) ≤ x := by omega
  have z0 : size x = size y0 + 32 := by rw [hy0]; exact size_shr (k := 32) h0
  by_cases h1 : 65536 ≤ y0
  ·obtain ⟨y1, hy1⟩ : ∃ y, y = y0 / 65536 := ⟨_, rfl⟩
   have e1 := shr16 y0
   rw [← hy1] at e1
   have i1 : (65536 : Int) ≤ y0 := by omega
   have z1 : size y0 = size y1 + 16 := by rw [hy1]; exact size_shr (k := 16) h1
   by_cases h2 : 256 ≤ y1
   ·obtain ⟨y2, hy2⟩ : ∃ y, y = y1 / 256 := ⟨_, rfl⟩
    have e2 := shr8 y1
    rw [← hy2] at e2
    have i2 : (256 : Int) ≤ y1 := by omega
    have z2 : size y1 = size y2 + 8 := by rw [hy2]; exact size_shr (k := 8) h2
    obtain ⟨b, hb, hbs⟩ := tab8_at (y := y2) (by omega)
    have hsz := size8 (y := y2) (by omega)
    have hu8 : IntKind.u8.wrap (y2 : Int) = y2 := IntWalk.u8_in _ (by omega)
    have hi8 : IntKind.i64.wrap (b.toNat : Int) = (b.toNat : Int) := IntWalk.i64_in _ (by omega)
    have hsum : IntKind.i64.wrap ((56 : Int) + b.toNat) = (size x : Int) := by rw [IntWalk.i64_in _ (by omega)]; omega
    simp [lf209, e0, i0, e1, i1, e2, i2, hsum, hu8, hb, hi8, wlit]
   ·have i2 : ¬ (256 : Int) ≤ y1 := by omega
    obtain ⟨b, hb, hbs⟩ := tab8_at (y := y1) (by omega)
    have hsz := size8 (y := y1) (by omega)
    have hu8 : IntKind.u8.wrap (y1 : Int) = y1 := IntWalk.u8_in _ (by omega)
    have hi8 : IntKind.i64.wrap (b.toNat : Int) = (b.toNat : Int) := IntWalk.i64_in _ (by omega)
    have hsum : IntKind.i64.wrap ((48 : Int) + b.toNat) = (size x : Int) := by rw [IntWalk.i64_in _ (by omega)]; omega
    simp [lf209, e0, i0, e1, i1, i2, hsum, hu8, hb, hi8, wlit]
  ·have i1 : ¬ (65536 : Int) ≤ y0 := by omega
   by_cases h2 : 256 ≤ y0
   ·obtain ⟨y2, hy2⟩ : ∃ y, y = y0 / 256 := ⟨_, rfl⟩
    have e2 := shr8 y0
    rw [← hy2] at e2
    have i2 : (256 : Int) ≤ y0 := by omega
    have z2 : size y0 = size y2 + 8 := by rw [hy2]; exact size_shr (k := 8) h2
    obtain ⟨b, hb, hbs⟩ := tab8_at (y := y2) (by omega)
    have hsz := size8 (y := y2) (by omega)
    have hu8 : IntKind.u8.wrap (y2 : Int) = y2 := IntWalk.u8_in _ (by omega)
    have hi8 : IntKind.i64.wrap (b.toNat : Int) = (b.toNat : Int) := IntWalk.i64_in _ (by omega)
    have hsum : IntKind.i64.wrap ((40 : Int) + b.toNat) = (size x : Int) := by rw [IntWalk.i64_in _ (by omega)]; omega
    simp [lf209, e0, i0, i1, e2, i2, hsum, hu8, hb, hi8, wlit]
   ·have i2 : ¬ (256 : Int) ≤ y0 := by omega
    obtain ⟨b, hb, hbs⟩ := tab8_at (y := y0) (by omega)
    have hsz := size8 (y := y0) (by omega)
    have hu8 : IntKind.u8.wrap (y0 : Int) = y0 := IntWalk.u8_in _ (by omega)
    have hi8 : IntKind.i64.wrap (b.toNat : Int) = (b.toNat : Int) := IntWalk.i64_in _ (by omega)
    have hsum : IntKind.i64.wrap ((32 : Int) + b.toNat) = (size x : Int) := by rw [IntWalk.i64_in _ (by omega)]; omega
    simp [lf209, e0, i0, i1, i2, hsum, hu8, hb, hi8, wlit]
 ·have i0 : ¬ (4294967296 : Int) ≤ x := by omega
  by_cases h1 : 65536 ≤ x
  ·obtain ⟨y1, hy1⟩ : ∃ y, y = x / 65536 := ⟨_, rfl⟩
   have e1 := shr16 x
   rw [← hy1] at e1
   have i1 : (65536 : Int) ≤ x := by omega
   have z1 : size x = size y1 + 16 := by rw [hy1]; exact size_shr (k := 16) h1
   by_cases h2 : 256 ≤ y1
   ·obtain ⟨y2, hy2⟩ : ∃ y, y = y1 / 256 := ⟨_, rfl⟩
    have e2 := shr8 y1
    rw [← hy2] at e2
    have i2 : (256 : Int) ≤ y1 := by omega
    have z2 : size y1 = size y2 + 8 := by rw [hy2]; exact size_shr (k := 8) h2
    obtain ⟨b, hb, hbs⟩ := tab8_at (y := y2) (by omega)
    have hsz := size8 (y := y2) (by omega)
    have hu8 : IntKind.u8.wrap (y2 : Int) = y2 := IntWalk.u8_in _ (by omega)
    have hi8 : IntKind.i64.wrap (b.toNat : Int) = (b.toNat : Int) := IntWalk.i64_in _ (by omega)
    have hsum : IntKind.i64.wrap ((24 : Int) + b.toNat) = (size x : Int) := by rw [IntWalk.i64_in _ (by omega)]; omega
    simp [lf209, i0, e1, i1, e2, i2, hsum, hu8, hb, hi8, wlit]
   ·have i2 : ¬ (256 : Int) ≤ y1 := by omega
    obtain ⟨b, hb, hbs⟩ := tab8_at (y := y1) (by omega)
    have hsz := size8 (y := y1) (by omega)
    have hu8 : IntKind.u8.wrap (y1 : Int) = y1 := IntWalk.u8_in _ (by omega)
    have hi8 : IntKind.i64.wrap (b.toNat : Int) = (b.toNat : Int) := IntWalk.i64_in _ (by omega)
    have hsum : IntKind.i64.wrap ((16 : Int) + b.toNat) = (size x : Int) := by rw [IntWalk.i64_in _ (by omega)]; omega
    simp [lf209, i0, e1, i1, i2, hsum, hu8, hb, hi8, wlit]
  ·have i1 : ¬ (65536 : Int) ≤ x := by omega
   by_cases h2 : 256 ≤ x
   ·obtain ⟨y2, hy2⟩ : ∃ y, y = x / 256 := ⟨_, rfl⟩
    have e2 := shr8 x
    rw [← hy2] at e2
    have i2 : (256 : Int) ≤ x := by omega
    have z2 : size x = size y2 + 8 := by rw [hy2]; exact size_shr (k := 8) h2
    obtain ⟨b, hb, hbs⟩ := tab8_at (y := y2) (by omega)
    have hsz := size8 (y := y2) (by omega)
    have hu8 : IntKind.u8.wrap (y2 : Int) = y2 := IntWalk.u8_in _ (by omega)
    have hi8 : IntKind.i64.wrap (b.toNat : Int) = (b.toNat : Int) := IntWalk.i64_in _ (by omega)
    have hsum : IntKind.i64.wrap ((8 : Int) + b.toNat) = (size x : Int) := by rw [IntWalk.i64_in _ (by omega)]; omega
    simp [lf209, i0, i1, e2, i2, hsum, hu8, hb, hi8, wlit]
   ·have i2 : ¬ (256 : Int) ≤ x := by omega
    obtain ⟨b, hb, hbs⟩ := tab8_at (y := x) (by omega)
    have hsz := size8 (y := x) (by omega)
    have hu8 : IntKind.u8.wrap (x : Int) = x := IntWalk.u8_in _ (by omega)
    have hi8 : IntKind.i64.wrap (b.toNat : Int) = (b.toNat : Int) := IntWalk.i64_in _ (by omega)
    have hi9 := hi8
    rw [hbs] at hi9
    simp [lf209, i0, i1, i2, hbs, hu8, hb, hi9]
def sLead : List PVal → Option PVal
 | [.int .u64 x] => if 0 ≤ x ∧ x.toNat < B then some (.int .i64 ((64 - size x.toNat : Nat) : Int)) else none
 | _ => none
theorem sLead_nat {x : Nat} (hx : x < B) : sLead [.int .u64 x] = some (.int .i64 ((64 - size x : Nat) : Int)) := by
 show (if (0 : Int) ≤ x ∧ (x : Int).toNat < B then _ else none) = _
 rw [if_pos ⟨by omega, by simpa using hx⟩]
 simp
theorem size64 {x : Nat} (hx : x < B) : size x ≤ 64 := size_le_iff.2 (by rw [pow64]; exact hx)
def Tlen : Tab := Tab.none.with 209 (pureS sLen64)
theorem Tlen_ok : TabOk Tryz.prog base Tlen := Tab.with_ok Tab.none_ok len64_ok
theorem Tlen_mu (f : FuncId) (a : List AVal) (H : Heap) : Tlen.mu f a H = none := (rfl)
theorem Tlen_len : Tlen.fn 209 = pureS sLen64 := (rfl)
theorem lead_ok : FnOk Tryz.prog base 202 (pureS sLead) := by
 refine pure_of_vc hmix Tlen_ok globNone low202 fun args z hs hf => ?_
 unfold sLead at hs
 split at hs
 case h_2 => cases hs
 rename_i x
 split at hs
 case isFalse => cases hs
 rename_i hc
 cases hs
 obtain ⟨x, rfl⟩ := Int.eq_ofNat_of_zero_le hc.1
 simp only [Int.toNat_natCast] at hc ⊢
 obtain ⟨-, hx⟩ := hc
 refine ⟨by simp [lf202], ?_⟩
 have h1 := sLen64_nat hx
 have h2 := size64 hx
 have h3 : IntKind.i64.wrap (64 - (size x : Int)) = ((64 - size x : Nat) : Int) := by rw [IntWalk.i64_in _ (by omega)]; omega
 simp [lf202, h1, h3, Tlen_mu, Tlen_len]
end Go.Proofs.YtepfpgnjpkcgmaaGreat

/-
 math/bits: Div64.
-/
namespace Go.Proofs.YtepfpgnjpkcgmaaGreat
open Go Go.Abs Go.Limbs
variable {base : Prot}
set_option maxRecDepth 20000
attribute [local irreducible] vc
attribute [local simp] pureS touchV freezeL fuel shiftV u64 au
theorem half_prod {q y : Nat} (hq : q < 4294967296) (hy : y < 4294967296) : q * y < B := by
 have h := Lib.half_mul_le (a := q) (b := y) (by omega) (by omega)
 generalize q * y = p at *
 rw [B_lit]
 omega
theorem digit_split (q a b rh : Nat) : q * (a * 4294967296 + b) = q * a * 4294967296 + q * b ∧ (q * a + rh) * 4294967296 = q * a * 4294967296 + rh * 4294967296 := by
 constructor
 ·rw [Nat.mul_add q, Nat.mul_assoc]
 ·exact Nat.add_mul _ _ _
theorem digit_over {q a b rh d un Q : Nat} (hT : un = q * a + rh) (hQ : Q = (un * 4294967296 + d) / (a * 4294967296 + b)) (hy : 0 < a * 4294967296 + b) (h : rh * 4294967296 + d < q * b) : Q < q := by
 subst hQ hT
 obtain ⟨e1, e2⟩ := digit_split q a b rh
 refine (Nat.div_lt_iff_lt_mul hy).2 ?_
 rw [e1, e2, Nat.add_assoc]
 exact Nat.add_lt_add_left h _
theorem digit_done {q a b rh d un Q : Nat} (hT : un = q * a + rh) (hQ : Q = (un * 4294967296 + d) / (a * 4294967296 + b)) (hy : 0 < a * 4294967296 + b) (h : q * b ≤ rh * 4294967296 + d) : q ≤ Q := by
 subst hQ hT
 obtain ⟨e1, e2⟩ := digit_split q a b rh
 refine (Nat.le_div_iff_mul_le hy).2 ?_
 rw [e1, e2]
 omega
theorem digit_small {a b d un Q : Nat} (hQ : Q = (un * 4294967296 + d) / (a * 4294967296 + b)) (hu : un < a * 4294967296 + b) (hd : d < 4294967296) : Q < 4294967296 := by
 rw [hQ, Nat.div_lt_iff_lt_mul (by omega)]
 omega
theorem digit_first {a b d un Q : Nat} (hQ : Q = (un * 4294967296 + d) / (a * 4294967296 + b)) (ha : 0 < a) (hd : d < 4294967296) : Q ≤ un / a := by
 rw [hQ, Nat.le_div_iff_mul_le ha]
 have h1 := Nat.div_mul_le_self (un * 4294967296 + d) (a * 4294967296 + b)
 generalize (un * 4294967296 + d) / (a * 4294967296 + b) = m at *
 rw [Nat.mul_add, ← Nat.mul_assoc] at h1
 omega
theorem first_le {a b un : Nat} (hu : un < a * 4294967296 + b) (ha : 2147483648 ≤ a) (hb : b < 4294967296) : un / a ≤ 4294967297 := by
 have : un / a < 4294967298 := by rw [Nat.div_lt_iff_lt_mul (by omega)]; omega
 omega
theorem wrap_rest {a d q y r : Nat} (h : a * 4294967296 + d = q * y + r) (hr : r < B) (hd : d < B) :
  IntKind.u64.wrap (IntKind.u64.wrap (IntKind.u64.wrap ((a : Int) * 4294967296) + d) - IntKind.u64.wrap ((q : Int) * y)) = (r : Int) := by
 rw [B_lit] at hr hd
 have e : (q : Int) * y = ((q * y : Nat) : Int) := by simp
 rw [e]
 generalize q * y = p at *
 rw [IntKind.wrap_u64, IntKind.wrap_u64, IntKind.wrap_u64, IntKind.wrap_u64]
 omega
theorem wrap_rest0 {a q y r : Nat} (h : a = q * y + r) (hr : r < B) : IntKind.u64.wrap ((a : Int) - IntKind.u64.wrap ((q : Int) * y)) = (r : Int) := by
 rw [B_lit] at hr
 have e : (q : Int) * y = ((q * y : Nat) : Int) := by simp
 rw [e]
 generalize q * y = p at *
 rw [IntKind.wrap_u64, IntKind.wrap_u64]
 omega
def divQ (h l y : Nat) : Nat := (h * B + l) / y
def divR (h l y : Nat) : Nat := (h * B + l) % y
def sDiv64 : List PVal → Option PVal
 | [.int .u64 h, .int .u64 l, .int .u64 y] => if 0 ≤ h ∧ h < y ∧ 0 ≤ l ∧ l.toNat < B ∧ y.toNat < B then some (.tup [.int .u64 (divQ h.toNat l.toNat y.toNat), .int .u64 (divR h.toNat l.toNat y.toNat)]) else none
 | _ => none
theorem sDiv64_nat {h l y : Nat} (hh : h < y) (hl : l < B) (hy : y < B) : sDiv64 [.int .u64 h, .int .u64 l, .int .u64 y] = some (.tup [.int .u64 (divQ h l y), .int .u64 (divR h l y)]) := by
 show (if (0 : Int) ≤ h ∧ (h : Int) < y ∧ (0 : Int) ≤ l ∧ (l : Int).toNat < B ∧ (y : Int).toNat < B then _ else none) = _
 rw [if_pos ⟨by omega, by omega, by omega, by simpa using hl, by simpa using hy⟩]
 simp
def Tdiv : Tab := Tab.none.with 202 (pureS sLead)
theorem Tdiv_ok : TabOk Tryz.prog base Tdiv := Tab.with_ok Tab.none_ok lead_ok
theorem Tdiv_mu (f : FuncId) (a : List AVal) (H : Heap) : Tdiv.mu f a H = none := (rfl)
theorem Tdiv_lead : Tdiv.fn 202 = pureS sLead := (rfl)
theorem div_loop0 {a b d un q0 r0 Q : Nat} {g2 g8 g11 g14 : AVal} {R : LExit → AFr → Heap → Prop} {fr : AFr} (hT : un = q0 * a + r0) (hQ : Q = (un * 4294967296 + d) / (a * 4294967296 + b)) (hu : un < a * 4294967296 + b) (ha : 2147483648 ≤ a) (ha2 : a < 4294967296) (hb : b < 4294967296) (hd : d < 4294967296)
  (hq0 : Q ≤ q0) (hq1 : q0 ≤ 4294967297) (hr0 : r0 < 4294967296) (h9 : fr 9 = .p (.int .u64 a)) (h10 : fr 10 = .p (.int .u64 b)) (hD : fr 13 = .p (.int .u64 d)) (hq : fr 15 = .p (.int .u64 q0)) (h16 : fr 16 = .p (.int .u64 r0)) (k2 : fr 2 = g2) (k8 : fr 8 = g8) (k11 : fr 11 = g11) (k14 : fr 14 = g14)
  (hR : ∀ fr' : AFr, fr' 9 = .p (.int .u64 a) → fr' 10 = .p (.int .u64 b) → fr' 13 = .p (.int .u64 d) → fr' 15 = .p (.int .u64 Q) → fr' 2 = g2 → fr' 8 = g8 → fr' 11 = g11 → fr' 14 = g14 → R .normal fr' []) : vc Tdiv lf212_B0 R fr [] := by
 simp only [lf212_B0, vc_block]
 have hy : 0 < a * 4294967296 + b := by omega
 have hQs := digit_small hQ hu hd
 refine loop_ind (fun fr H => ∃ q r : Nat, un = q * a + r ∧ Q ≤ q ∧ q ≤ 4294967297 ∧ r < 4294967296 ∧ H = [] ∧ fr 9 = .p (.int .u64 a) ∧ fr 10 = .p (.int .u64 b) ∧ fr 13 = .p (.int .u64 d) ∧ fr 15 = .p (.int .u64 q) ∧ fr 16 = .p (.int .u64 r) ∧ fr 2 = g2 ∧ fr 8 = g8 ∧ fr 11 = g11 ∧ fr 14 = g14)
  (fun fr _ => ivar (fr 15)) ⟨q0, r0, hT, hq0, hq1, hr0, rfl, h9, h10, hD, hq, h16, k2, k8, k11, k14⟩ ?_
 rintro fr H ⟨q, r, hT, hq0, hq1, hr0, rfl, h9, h10, hD, hq, h16, k2, k8, k11, k14⟩
 obtain ⟨r', hr'⟩ : ∃ x, x = r + a := ⟨_, rfl⟩
 have hw2 : IntKind.u64.wrap ((r : Int) + a) = (r' : Int) := by rw [wrap_u_add (by rw [B_lit]; omega), hr']
 have hTs : ∀ q', q = q' + 1 → un = q' * a + r' := fun q' e => by rw [hT, e, Nat.add_mul, hr']; omega
 have brk : ∀ q', q = q' + 1 → 4294967296 ≤ r' → q' = Q → True := fun _ _ _ _ => trivial
 by_cases hbig : 4294967296 ≤ q
 ·obtain ⟨q', hq'⟩ : ∃ x, q = x + 1 := ⟨q - 1, by omega⟩
  have hw1 : IntKind.u64.wrap ((q : Int) - 1) = (q' : Int) := by rw [IntWalk.u64_in _ (by omega)]; omega
  have hbI : (4294967296 : Int) ≤ q := by omega
  have hT' := hTs q' hq'
  by_cases hrb : 4294967296 ≤ r'
  ·have hrI : (4294967296 : Int) ≤ r' := by omega
   have hle : q' ≤ Q := digit_done hT' hQ hy (by
    have h1 : q' * b ≤ 4294967296 * b := Nat.mul_le_mul_right _ (by omega)
    omega)
   have hqQ : q' = Q := by omega
   subst hqQ
   simp [h9, h10, hD, hq, h16, k2, k8, k11, k14, hbI, hw1, hw2, hrI]
   exact hR _ (by simp [h9]) (by simp [h10]) (by simp [hD]) (by simp) (by simp [k2]) (by simp [k8]) (by simp [k11]) (by simp [k14])
  ·have hrI : ¬ (4294967296 : Int) ≤ r' := by omega
   simp [h9, h10, hD, hq, h16, k2, k8, k11, k14, hbI, hw1, hw2, hrI, ivar]
   exact ⟨⟨q', r', hT', by omega, by omega, by omega, rfl, rfl⟩, by omega⟩
 ·have hbI : ¬ (4294967296 : Int) ≤ q := by omega
  obtain ⟨p, hp⟩ : ∃ x, x = q * b := ⟨_, rfl⟩
  have hpB : p < B := by rw [hp]; exact half_prod (by omega) hb
  have hw3 : IntKind.u64.wrap ((q : Int) * b) = (p : Int) := by rw [wrap_u_mul, ← hp, Nat.mod_eq_of_lt hpB]
  obtain ⟨t, ht⟩ : ∃ x, x = 4294967296 * r := ⟨_, rfl⟩
  have hw4 : IntKind.u64.wrap (4294967296 * (r : Int)) = (t : Int) := by rw [IntWalk.u64_in _ (by omega)]; omega
  obtain ⟨t2, ht2⟩ : ∃ x, x = t + d := ⟨_, rfl⟩
  have hw5 : IntKind.u64.wrap ((t : Int) + d) = (t2 : Int) := by rw [IntWalk.u64_in _ (by omega)]; omega
  by_cases hc : t2 < p
  ·have hQq : Q < q := digit_over hT hQ hy (by omega)
   obtain ⟨q', hq'⟩ : ∃ x, q = x + 1 := ⟨q - 1, by omega⟩
   have hw1 : IntKind.u64.wrap ((q : Int) - 1) = (q' : Int) := by rw [IntWalk.u64_in _ (by omega)]; omega
   have hT' := hTs q' hq'
   by_cases hrb : 4294967296 ≤ r'
   ·have hrI : (4294967296 : Int) ≤ r' := by omega
    have hle : q' ≤ Q := digit_done hT' hQ hy (by
     have h1 : q' * b ≤ 4294967296 * b := Nat.mul_le_mul_right _ (by omega)
     omega)
    have hqQ : q' = Q := by omega
    subst hqQ
    simp [h9, h10, hD, hq, h16, k2, k8, k11, k14, hbI, hw1, hw2, hw3, hw4, hw5, hc, hrI]
    exact hR _ (by simp [h9]) (by simp [h10]) (by simp [hD]) (by simp) (by simp [k2]) (by simp [k8]) (by simp [k11]) (by simp [k14])
   ·have hrI : ¬ (4294967296 : Int) ≤ r' := by omega
    simp [h9, h10, hD, hq, h16, k2, k8, k11, k14, hbI, hw1, hw2, hw3, hw4, hw5, hc, hrI, ivar]
    exact ⟨⟨q', r', hT', by omega, by omega, by omega, rfl, rfl⟩, by omega⟩
  ·have hle : q ≤ Q := digit_done hT hQ hy (by omega)
   have hqQ : q = Q := by omega
   subst hqQ
   simp [h9, h10, hD, hq, h16, k2, k8, k11, k14, hbI, hw3, hw4, hw5, hc]
   exact hR _ (by simp [h9]) (by simp [h10]) (by simp [hD]) (by simp [hq]) (by simp [k2]) (by simp [k8]) (by simp [k11]) (by simp [k14])
theorem div_loop1 {a b d un q0 r0 Q : Nat} {g2 g8 g15 g17 : AVal} {R : LExit → AFr → Heap → Prop} {fr : AFr} (hT : un = q0 * a + r0) (hQ : Q = (un * 4294967296 + d) / (a * 4294967296 + b)) (hu : un < a * 4294967296 + b) (ha : 2147483648 ≤ a) (ha2 : a < 4294967296) (hb : b < 4294967296) (hd : d < 4294967296)
  (hq0 : Q ≤ q0) (hq1 : q0 ≤ 4294967297) (hr0 : r0 < 4294967296) (h9 : fr 9 = .p (.int .u64 a)) (h10 : fr 10 = .p (.int .u64 b)) (hD : fr 14 = .p (.int .u64 d)) (hq : fr 18 = .p (.int .u64 q0)) (h16 : fr 16 = .p (.int .u64 r0)) (k2 : fr 2 = g2) (k8 : fr 8 = g8) (k15 : fr 15 = g15) (k17 : fr 17 = g17)
  (hR : ∀ fr' : AFr, fr' 9 = .p (.int .u64 a) → fr' 10 = .p (.int .u64 b) → fr' 14 = .p (.int .u64 d) → fr' 18 = .p (.int .u64 Q) → fr' 2 = g2 → fr' 8 = g8 → fr' 15 = g15 → fr' 17 = g17 → R .normal fr' []) : vc Tdiv lf212_B1 R fr [] := by
 simp only [lf212_B1, vc_block]
 have hy : 0 < a * 4294967296 + b := by omega
 have hQs := digit_small hQ hu hd
 refine loop_ind (fun fr H => ∃ q r : Nat, un = q * a + r ∧ Q ≤ q ∧ q ≤ 4294967297 ∧ r < 4294967296 ∧ H = [] ∧ fr 9 = .p (.int .u64 a) ∧ fr 10 = .p (.int .u64 b) ∧ fr 14 = .p (.int .u64 d) ∧ fr 18 = .p (.int .u64 q) ∧ fr 16 = .p (.int .u64 r) ∧ fr 2 = g2 ∧ fr 8 = g8 ∧ fr 15 = g15 ∧ fr 17 = g17)
  (fun fr _ => ivar (fr 18)) ⟨q0, r0, hT, hq0, hq1, hr0, rfl, h9, h10, hD, hq, h16, k2, k8, k15, k17⟩ ?_
 rintro fr H ⟨q, r, hT, hq0, hq1, hr0, rfl, h9, h10, hD, hq, h16, k2, k8, k15, k17⟩
 obtain ⟨r', hr'⟩ : ∃ x, x = r + a := ⟨_, rfl⟩
 have hw2 : IntKind.u64.wrap ((r : Int) + a) = (r' : Int) := by rw [wrap_u_add (by rw [B_lit]; omega), hr']
 have hTs : ∀ q', q = q' + 1 → un = q' * a + r' := fun q' e => by rw [hT, e, Nat.add_mul, hr']; omega
 have brk : ∀ q', q = q' + 1 → 4294967296 ≤ r' → q' = Q → True := fun _ _ _ _ => trivial
 by_cases hbig : 4294967296 ≤ q
 ·obtain ⟨q', hq'⟩ : ∃ x, q = x + 1 := ⟨q - 1, by omega⟩
  have hw1 : IntKind.u64.wrap ((q : Int) - 1) = (q' : Int) := by rw [IntWalk.u64_in _ (by omega)]; omega
  have hbI : (4294967296 : Int) ≤ q := by omega
  have hT' := hTs q' hq'
  by_cases hrb : 4294967296 ≤ r'
  ·have hrI : (4294967296 : Int) ≤ r' := by omega
   have hle : q' ≤ Q := digit_done hT' hQ hy (by
    have h1 : q' * b ≤ 4294967296 * b := Nat.mul_le_mul_right _ (by omega)
    omega)
   have hqQ : q' = Q := by omega
   subst hqQ
   simp [h9, h10, hD, hq, h16, k2, k8, k15, k17, hbI, hw1, hw2, hrI]
   exact hR _ (by simp [h9]) (by simp [h10]) (by simp [hD]) (by simp) (by simp [k2]) (by simp [k8]) (by simp [k15]) (by simp [k17])
  ·have hrI : ¬ (4294967296 : Int) ≤ r' := by omega
   simp [h9, h10, hD, hq, h16, k2, k8, k15, k17, hbI, hw1, hw2, hrI, ivar]
   exact ⟨⟨q', r', hT', by omega, by omega, by omega, rfl, rfl⟩, by omega⟩
 ·have hbI : ¬ (4294967296 : Int) ≤ q := by omega
  obtain ⟨p, hp⟩ : ∃ x, x = q * b := ⟨_, rfl⟩
  have hpB : p < B := by rw [hp]; exact half_prod (by omega) hb
  have hw3 : IntKind.u64.wrap ((q : Int) * b) = (p : Int) := by rw [wrap_u_mul, ← hp, Nat.mod_eq_of_lt hpB]
  obtain ⟨t, ht⟩ : ∃ x, x = 4294967296 * r := ⟨_, rfl⟩
  have hw4 : IntKind.u64.wrap (4294967296 * (r : Int)) = (t : Int) := by rw [IntWalk.u64_in _ (by omega)]; omega
  obtain ⟨t2, ht2⟩ : ∃ x, x = t + d := ⟨_, rfl⟩
  have hw5 : IntKind.u64.wrap ((t : Int) + d) = (t2 : Int) := by rw [IntWalk.u64_in _ (by omega)]; omega
  by_cases hc : t2 < p
  ·have hQq : Q < q := digit_over hT hQ hy (by omega)
   obtain ⟨q', hq'⟩ : ∃ x, q = x + 1 := ⟨q - 1, by omega⟩
   have hw1 : IntKind.u64.wrap ((q : Int) - 1) = (q' : Int) := by rw [IntWalk.u64_in _ (by omega)]; omega
   have hT' := hTs q' hq'
   by_cases hrb : 4294967296 ≤ r'
   ·have hrI : (4294967296 : Int) ≤ r' := by omega
    have hle : q' ≤ Q := digit_done hT' hQ hy (by
     have h1 : q' * b ≤ 4294967296 * b := Nat.mul_le_mul_right _ (by omega)
     omega)
    have hqQ : q' = Q := by omega
    subst hqQ
    simp [h9, h10, hD, hq, h16, k2, k8, k15, k17, hbI, hw1, hw2, hw3, hw4, hw5, hc, hrI]
    exact hR _ (by simp [h9]) (by simp [h10]) (by simp [hD]) (by simp) (by simp [k2]) (by simp [k8]) (by simp [k15]) (by simp [k17])
   ·have hrI : ¬ (4294967296 : Int) ≤ r' := by omega
    simp [h9, h10, hD, hq, h16, k2, k8, k15, k17, hbI, hw1, hw2, hw3, hw4, hw5, hc, hrI, ivar]
    exact ⟨⟨q', r', hT', by omega, by omega, by omega, rfl, rfl⟩, by omega⟩
  ·have hle : q ≤ Q := digit_done hT hQ hy (by omega)
   have hqQ : q = Q := by omega
   subst hqQ
   simp [h9, h10, hD, hq, h16, k2, k8, k15, k17, hbI, hw3, hw4, hw5, hc]
   exact hR _ (by simp [h9]) (by simp [h10]) (by simp [hD]) (by simp [hq]) (by simp [k2]) (by simp [k8]) (by simp [k15]) (by simp [k17])
theorem div64_ok : FnOk Tryz.prog base 212 (pureS sDiv64) := by
 refine pure_of_vc hmix Tdiv_ok globNone low212 fun args z hs hf => ?_
 unfold sDiv64 at hs
 split at hs
 case h_2 => cases hs
 rename_i h l y
 split at hs
 case isFalse => cases hs
 rename_i hc
 cases hs
 obtain ⟨h, rfl⟩ := Int.eq_ofNat_of_zero_le hc.1
 obtain ⟨l, rfl⟩ := Int.eq_ofNat_of_zero_le hc.2.2.1
 obtain ⟨y, rfl⟩ := Int.eq_ofNat_of_zero_le (a := y) (by omega)
 simp only [Int.toNat_natCast] at hc ⊢
 obtain ⟨-, hhy, -, hl, hy⟩ := hc
 have hhy : h < y := by omega
 refine ⟨by simp [lf212], ?_⟩
 have hy0 : ((y : Int) == 0) = false := beq_false_of_ne (by omega)
 have hyh : ¬ y ≤ h := by omega
 by_cases hh : h = 0
 ·subst hh
  have hq : IntKind.u64.wrap ((l : Int) / y) = (divQ 0 l y : Int) := by
   have : (l : Int) / y = ((l / y : Nat) : Int) := by simp
   rw [this, wrap_u (Nat.lt_of_le_of_lt (Nat.div_le_self _ _) hl)]
   simp [divQ]
  have hr : (l : Int).tmod y = (divR 0 l y : Int) := by rw [Int.tmod_eq_emod_of_nonneg (by omega)]; simp [divR]
  have hyn : ¬ (y : Int) = 0 := by omega
  have hyn' : ¬ y = 0 := by omega
  have hyI : ¬ (y : Int) ≤ 0 := by omega
  simp [lf212, hy0, hyh, hyI, hyn, hyn', hq, hr]
 ·have hh0 : ((h : Int) == 0) = false := beq_false_of_ne (by omega)
  have hyne : y ≠ 0 := by omega
  obtain ⟨s, hs⟩ : ∃ s, s = 64 - size y := ⟨_, rfl⟩
  have hsz := size64 hy
  have hsp := size_pos hyne
  have hs63 : s ≤ 63 := by omega
  have hlead := sLead_nat hy
  rw [← hs] at hlead
  have hws : IntKind.u64.wrap (s : Int) = s := wrap_u (by rw [B_lit]; omega)
  -- the divisor
  obtain ⟨y', hy'⟩ : ∃ w, w = y * 2 ^ s := ⟨_, rfl⟩
  have hy'B : y' < B := by
   rw [hy', ← pow64, show 64 = size y + s by omega, Nat.pow_add]
   exact Nat.mul_lt_mul_of_pos_right (lt_size y) (Nat.two_pow_pos s)
  have hy'H : B / 2 ≤ y' := by
   have h1 := Nat.mul_le_mul_right (2 ^ s) (size_le hyne)
   rw [← Nat.pow_add, show size y - 1 + s = 63 by omega, ← hy'] at h1
   rw [B_lit]
   omega
  have e1 : shiftI .shl .u64 y s = some (.int .u64 y') := by rw [shl_word (by omega), ← hy', Nat.mod_eq_of_lt hy'B]
  obtain ⟨a, ha⟩ : ∃ w, w = hi32 y' := ⟨_, rfl⟩
  obtain ⟨b, hb⟩ : ∃ w, w = lo32 y' := ⟨_, rfl⟩
  have e2 := shr32 y'
  have e3 := low_mask hy'B
  rw [← ha] at e2
  rw [← hb] at e3
  have hab : y' = a * 4294967296 + b := by rw [ha, hb]; unfold hi32 lo32; omega
  have hbG : b < 4294967296 := by rw [hb]; unfold lo32; omega
  have haG : a < 4294967296 := by rw [ha]; unfold hi32; rw [B_lit] at hy'B; omega
  have haH : 2147483648 ≤ a := by rw [B_lit] at hy'H; omega
  -- the dividend
  obtain ⟨u, hu⟩ : ∃ w, w = h * 2 ^ s + l / 2 ^ (64 - s) := ⟨_, rfl⟩
  have hlo : l / 2 ^ (64 - s) < 2 ^ s := by
   rw [Nat.div_lt_iff_lt_mul (Nat.two_pow_pos _), two_split (by omega)]; exact hl
  have huy : u < y' := by
   have : (h + 1) * 2 ^ s ≤ y * 2 ^ s := Nat.mul_le_mul_right _ hhy
   rw [Nat.add_mul, Nat.one_mul] at this
   omega
  have hhs : h * 2 ^ s < B := Nat.lt_of_le_of_lt (by rw [hu]; exact Nat.le_add_right _ _) (Nat.lt_trans huy hy'B)
  have e4 : shiftI .shl .u64 h s = some (.int .u64 (h * 2 ^ s : Nat)) := by rw [shl_word (by omega), Nat.mod_eq_of_lt hhs]
  have hws2 : IntKind.u64.wrap (64 - (s : Int)) = ((64 - s : Nat) : Int) := by rw [IntWalk.u64_in _ (by omega)]; omega
  have e5 : shiftI .shr .u64 l ((64 - s : Nat) : Int) = some (.int .u64 (l / 2 ^ (64 - s) : Nat)) := shr_word (by omega)
  have e6 := or_bits hhs (show l / 2 ^ (64 - s) < B from Nat.lt_of_le_of_lt (Nat.div_le_self _ _) hl)
  rw [Nat.or_comm, or_low hlo, Nat.add_comm, ← hu] at e6
  obtain ⟨hs1, hhs1⟩ : ∃ w, w = h * 2 ^ s := ⟨_, rfl⟩
  obtain ⟨ls1, hls1⟩ : ∃ w, w = l / 2 ^ (64 - s) := ⟨_, rfl⟩
  rw [← hhs1] at e4 e6
  rw [← hls1] at e5 e6
  obtain ⟨v, hv⟩ : ∃ w, w = l * 2 ^ s % B := ⟨_, rfl⟩
  have hvB : v < B := by rw [hv]; exact Nat.mod_lt _ B_pos
  have e7 : shiftI .shl .u64 l s = some (.int .u64 v) := by rw [shl_word (by omega), hv]
  obtain ⟨d1, hd1⟩ : ∃ w, w = hi32 v := ⟨_, rfl⟩
  obtain ⟨d0, hd0⟩ : ∃ w, w = lo32 v := ⟨_, rfl⟩
  have e8 := shr32 v
  have e9 := low_mask hvB
  rw [← hd1] at e8
  rw [← hd0] at e9
  have hvd : v = d1 * 4294967296 + d0 := by rw [hd1, hd0]; unfold hi32 lo32; omega
  have hd1G : d1 < 4294967296 := by rw [hd1]; unfold hi32; rw [B_lit] at hvB; omega
  have hd0G : d0 < 4294967296 := by rw [hd0]; unfold lo32; omega
  have hN : (h * B + l) * 2 ^ s = (u * 4294967296 + d1) * 4294967296 + d0 := by
   have h1 := Nat.mod_add_div (l * 2 ^ s) B
   rw [← hv, shl_high (by omega)] at h1
   have h2 : (h * B + l) * 2 ^ s = h * 2 ^ s * B + l * 2 ^ s := by rw [Nat.add_mul, Nat.mul_right_comm]
   rw [h2, hu, ← h1, hvd]
   generalize h * 2 ^ s = p at *
   generalize l / 2 ^ (64 - s) = q at *
   rw [B_lit]
   omega
  -- the digits
  obtain ⟨Q1, hQ1⟩ : ∃ w, w = (u * 4294967296 + d1) / (a * 4294967296 + b) := ⟨_, rfl⟩
  obtain ⟨R1, hR1⟩ : ∃ w, w = (u * 4294967296 + d1) % (a * 4294967296 + b) := ⟨_, rfl⟩
  have hdm1 := Nat.div_add_mod (u * 4294967296 + d1) (a * 4294967296 + b)
  rw [← hQ1, ← hR1, Nat.mul_comm _ Q1, ← hab] at hdm1
  have hR1y : R1 < y' := by rw [hR1, ← hab]; exact Nat.mod_lt _ (by omega)
  obtain ⟨Q0, hQ0⟩ : ∃ w, w = (R1 * 4294967296 + d0) / (a * 4294967296 + b) := ⟨_, rfl⟩
  obtain ⟨R0, hR0⟩ : ∃ w, w = (R1 * 4294967296 + d0) % (a * 4294967296 + b) := ⟨_, rfl⟩
  have hdm0 := Nat.div_add_mod (R1 * 4294967296 + d0) (a * 4294967296 + b)
  rw [← hQ0, ← hR0, Nat.mul_comm _ Q0, ← hab] at hdm0
  have hR0y : R0 < y' := by rw [hR0, ← hab]; exact Nat.mod_lt _ (by omega)
  have hQ1G := digit_small hQ1 (by omega) hd1G
  have hQ0G := digit_small hQ0 (by omega) hd0G
  have hdiv : h * B + l = (Q1 * 4294967296 + Q0) * y + R0 / 2 ^ s ∧ R0 / 2 ^ s < y := by
   have h1 : (h * B + l) * 2 ^ s = ((Q1 * 4294967296 + Q0) * y) * 2 ^ s + R0 := by
    rw [hN, ← hdm1, Nat.mul_assoc, ← hy', Nat.add_mul (Q1 * 4294967296), Nat.mul_right_comm Q1, Nat.add_mul]
    omega
   have h2 := congrArg (fun t => t / 2 ^ s) h1
   rw [Nat.mul_div_cancel _ (Nat.two_pow_pos s), Nat.add_comm _ R0, Nat.add_mul_div_right _ _ (Nat.two_pow_pos s)] at h2
   refine ⟨by omega, ?_⟩
   rw [Nat.div_lt_iff_lt_mul (Nat.two_pow_pos s), ← hy']
   exact hR0y
  obtain ⟨hq, hr⟩ := div_done (a := h * B + l) (q := Q1 * 4294967296 + Q0) (k := y) (by rw [Nat.mul_comm y]; exact hdiv.1) hdiv.2
  have hqd : divQ h l y = Q1 * 4294967296 + Q0 := hq.symm
  have hrd : divR h l y = R0 / 2 ^ s := hr.symm
  -- the walk
  have ha0 : ¬ (a : Int) = 0 := by omega
  have ha0' : ¬ a = 0 := by omega
  obtain ⟨q0, hq0⟩ : ∃ w, w = u / a := ⟨_, rfl⟩
  obtain ⟨r0, hr0⟩ : ∃ w, w = u % a := ⟨_, rfl⟩
  have hua := Nat.div_add_mod u a
  rw [← hq0, ← hr0, Nat.mul_comm] at hua
  have hr0a : r0 < a := by rw [hr0]; exact Nat.mod_lt _ (by omega)
  have w1 : IntKind.u64.wrap ((u : Int) / a) = (q0 : Int) := by
   have : (u : Int) / a = ((u / a : Nat) : Int) := by simp
   rw [this, ← hq0, wrap_u (Nat.lt_of_le_of_lt (by rw [hq0]; exact Nat.div_le_self _ _) (by omega : u < B))]
  have w2 : IntKind.u64.wrap ((u : Int) - IntKind.u64.wrap ((q0 : Int) * a)) = (r0 : Int) := wrap_rest0 hua.symm (by rw [B_lit]; omega)
  obtain ⟨q2, hq2⟩ : ∃ w, w = R1 / a := ⟨_, rfl⟩
  obtain ⟨r2, hr2⟩ : ∃ w, w = R1 % a := ⟨_, rfl⟩
  have hua2 := Nat.div_add_mod R1 a
  rw [← hq2, ← hr2, Nat.mul_comm] at hua2
  have hr2a : r2 < a := by rw [hr2]; exact Nat.mod_lt _ (by omega)
  have w3 : IntKind.u64.wrap ((R1 : Int) / a) = (q2 : Int) := by
   have : (R1 : Int) / a = ((R1 / a : Nat) : Int) := by simp
   rw [this, ← hq2, wrap_u (Nat.lt_of_le_of_lt (by rw [hq2]; exact Nat.div_le_self _ _) (by omega : R1 < B))]
  have w4 : IntKind.u64.wrap ((R1 : Int) - IntKind.u64.wrap ((q2 : Int) * a)) = (r2 : Int) := wrap_rest0 hua2.symm (by rw [B_lit]; omega)
  have w5 := wrap_rest (a := u) (d := d1) (q := Q1) (y := y') (r := R1) hdm1.symm (by omega) (by rw [B_lit]; omega)
  have w6 := wrap_rest (a := R1) (d := d0) (q := Q0) (y := y') (r := R0) hdm0.symm (by omega) (by rw [B_lit]; omega)
  obtain ⟨q3, hq3⟩ : ∃ w, w = Q1 * 4294967296 := ⟨_, rfl⟩
  have w7 : IntKind.u64.wrap ((Q1 : Int) * 4294967296) = (q3 : Int) := by rw [IntWalk.u64_in _ (by omega)]; omega
  have w8 : IntKind.u64.wrap ((q3 : Int) + Q0) = (divQ h l y : Int) := by rw [hqd, ← hq3, IntWalk.u64_in _ (by omega)]; omega
  have w9 : shiftI .shr .u64 R0 s = some (.int .u64 (divR h l y)) := by rw [shr_word (by omega), hrd]
  have hyhI : ¬ (y : Int) ≤ h := by omega
  simp [-BitVec.toNat_and, -BitVec.toNat_or, lf212, hy0, hyh, hh0, hlead, hws, hws2, e1, e2, e3, e4, e5, e6, e7, e8, e9, ha0, ha0', w1, w2, Tdiv_mu, Tdiv_lead]
  refine div_loop0 (g2 := .p (.int .u64 y')) (g8 := .p (.int .u64 s)) (g11 := .p (.int .u64 u)) (g14 := .p (.int .u64 d0)) (un := u) (d := d1) (a := a) (b := b) (q0 := q0) (r0 := r0) (Q := Q1) hua.symm hQ1 (by omega) haH haG hbG hd1G ?_ ?_ (by omega) (by simp) (by simp) (by simp) (by simp) (by simp) (by simp) (by simp) (by simp) (by simp) ?_
  ·rw [hq0]; exact digit_first hQ1 (by omega) hd1G
  ·rw [hq0]; exact first_le (by omega) haH hbG
  intro fr' f9 f10 f13 f15 f2 f8 f11 f14
  simp [f9, f10, f13, f15, f2, f8, f11, f14, w3, w4, w5, ha0, ha0']
  refine div_loop1 (g2 := .p (.int .u64 y')) (g8 := .p (.int .u64 s)) (g15 := .p (.int .u64 Q1)) (g17 := .p (.int .u64 R1)) (un := R1) (d := d0) (a := a) (b := b) (q0 := q2) (r0 := r2) (Q := Q0) hua2.symm hQ0 (by omega) haH haG hbG hd0G ?_ ?_ (by omega) (by simp [f9]) (by simp [f10]) (by simp [f14]) (by simp) (by simp) (by simp [f2]) (by simp [f8]) (by simp [f15]) (by simp) ?_
  ·rw [hq2]; exact digit_first hQ0 (by omega) hd0G
  ·rw [hq2]; exact first_le (by omega) haH hbG
  intro fr2 g9 g10 g14 g18 g2 g8 g15 g17
  simp [g9, g10, g14, g18, g2, g8, g15, g17, w6, w7, w8, w9]
end Go.Proofs.YtepfpgnjpkcgmaaGreat

/-
 nat: a number by a limb.
-/
namespace Go.Proofs.YtepfpgnjpkcgmaaGreat
open Go Go.Abs Go.Limbs
variable {base : Prot}
set_option maxRecDepth 20000
attribute [local irreducible] vc
attribute [local simp] pureS touchV freezeL fuel shiftV u64 au
theorem drop_set_self {l : List Nat} {m : Nat} (h : m < l.length) (x : Nat) : (l.set m x).drop m = x :: l.drop (m + 1) := by
 rw [drop_get (a := l.set m x) (x := x) (by simp [h]), List.drop_set_of_lt (by omega)]
def Tby : Tab := (Tab.none.with 184 (pureS sTrim)).with 212 (pureS sDiv64)
theorem Tby_ok : TabOk Tryz.prog base Tby := Tab.with_ok (Tab.with_ok Tab.none_ok trim_ok) div64_ok
theorem Tby_mu (f : FuncId) (a : List AVal) (H : Heap) : Tby.mu f a H = none := (rfl)
theorem Tby_trim : Tby.fn 184 = pureS sTrim := (rfl)
theorem Tby_div : Tby.fn 212 = pureS sDiv64 := (rfl)
def sByLimb : List PVal → Option PVal
 | [.lst xs, .int .u64 k] => match decN xs with | some a => if 0 < k ∧ k.toNat < B then some (.tup [numP (a / k.toNat), .int .u64 (a % k.toNat : Nat)]) else none | _ => none
 | _ => none
theorem sByLimb_num {a k : Nat} (ha : len a ≤ 100000) (hk : 0 < k) (hk2 : k < B) : sByLimb [.lst ((limbs a).map u64), .int .u64 k] = some (.tup [.lst ((limbs (a / k)).map u64), .int .u64 (a % k : Nat)]) := by
 simp only [sByLimb, decN_num ha]
 have : (0 : Int) < k ∧ (k : Int).toNat < B := ⟨by omega, by simpa using hk2⟩
 rw [if_pos this]
 rfl
theorem byLimb_ok : FnOk Tryz.prog base 201 (pureS sByLimb) := by
 refine pure_of_vc hmix Tby_ok globNone low201 fun args z hs hf => ?_
 unfold sByLimb at hs
 split at hs
 case h_2 => cases hs
 rename_i xs k
 split at hs
 case h_2 => cases hs
 rename_i a ha
 split at hs
 case isFalse => cases hs
 rename_i hk
 cases hs
 obtain ⟨rfl, hla⟩ := decN_some ha
 obtain ⟨k, rfl⟩ := Int.eq_ofNat_of_zero_le (a := k) (by omega)
 simp only [Int.toNat_natCast] at hk ⊢
 have hk0 : 0 < k := by omega
 have hkB := hk.2
 refine ⟨by simp [lf201], ?_⟩
 have la : (limbs a).length = len a := rfl
 have wa := wf_limbs a
 have hcap := mul_capI (len a) (by omega)
 have hi0 : IntKind.i64.wrap ((len a : Int) - 1) = (len a : Int) - 1 := IntWalk.i64_in _ (by omega)
 obtain ⟨R, hR⟩ : ∃ R, R = a % k := ⟨_, rfl⟩
 rw [← hR]
 simp [lf201, la, hcap, hi0]
 simp only [lf201_B0, vc_block]
 refine loop_ind (fun fr H => ∃ (n r : Nat) (l : List Nat), n ≤ len a ∧ l.length = len a ∧ Wf l ∧ r < k ∧ val ((limbs a).drop n) = k * val (l.drop n) + r ∧ H = [rowE 0 l] ∧ fr 0 = .p (.lst ((limbs a).map u64)) ∧ fr 1 = .p (.int .u64 k) ∧
   fr 4 = .own 0 0 (len a) 0 ∧ fr 5 = .p (.int .u64 r) ∧ fr 6 = .p (.int .i64 ((n : Int) - 1)))
  (fun fr _ => dvar (fr 6)) ⟨len a, 0, List.replicate (len a) 0, by omega, by simp, Wf.zeros _, hk0, by rw [List.drop_eq_nil_of_le (by omega), List.drop_eq_nil_of_le (by simp)]; simp [val_nil], by simp [rowE], by simp, by simp, by simp, by simp, by simp⟩ ?_
 rintro fr H ⟨n, r, l, hn, hl, hwl, hrk, hv, rfl, h0, h1, h4, h5, h6⟩
 by_cases hn0 : 0 < n
 ·obtain ⟨m, rfl⟩ : ∃ m, n = m + 1 := ⟨n - 1, by omega⟩
  have e6 : (((m + 1 : Nat) : Int) - 1) = (m : Int) := by omega
  rw [e6] at h6
  obtain ⟨x, hx⟩ : ∃ x, (limbs a)[m]? = some x := ⟨_, List.getElem?_eq_getElem (by omega)⟩
  have hml : m < l.length := by omega
  have hmn : m < len a := by omega
  obtain ⟨o, ho⟩ : ∃ o, l[m]? = some o := ⟨_, List.getElem?_eq_getElem hml⟩
  have hxB := wa.get hx
  have hD := sDiv64_nat hrk hxB hkB
  have hw : IntKind.i64.wrap ((m : Int) - 1) = (m : Int) - 1 := IntWalk.i64_in _ (by omega)
  simp [h0, h1, h4, h5, h6, hx, hD, hmn, ho, hw, rowE, Tby_mu, Tby_div, dvar]
  refine ⟨m, by omega, divR r x k, l.set m (divQ r x k), by simp [hl], hwl.set _ (div_lt hrk hxB), Nat.mod_lt _ hk0, ?_, by rw [List.map_set]; rfl, rfl, rfl⟩
  rw [val_drop hx, drop_set_self hml, val_cons]
  exact div_step hv
 ·have : n = 0 := by omega
  subst this
  rw [List.drop_zero, List.drop_zero, val_limbs] at hv
  obtain ⟨hq, hr⟩ := div_done hv hrk
  obtain ⟨hT, ht⟩ := row_end hl hwl (by omega) hq
  have hrR : r = R := by rw [hR, hr]
  subst hrR
  simp [h4, h5, h6, rowE, hl, hT, ht, mapO_au_take, mapO_au, touch_au, touch_au_take, Tby_mu, Tby_trim]
end Go.Proofs.YtepfpgnjpkcgmaaGreat

/-
 nat: a number times a power of two.
-/
namespace Go.Proofs.YtepfpgnjpkcgmaaGreat
open Go Go.Abs Go.Limbs
variable {base : Prot}
set_option maxRecDepth 20000
attribute [local irreducible] vc
attribute [local simp] pureS touchV freezeL fuel shiftV u64 au
def Ttr : Tab := Tab.none.with 184 (pureS sTrim)
theorem Ttr_ok : TabOk Tryz.prog base Ttr := Tab.with_ok Tab.none_ok trim_ok
theorem Ttr_mu (f : FuncId) (a : List AVal) (H : Heap) : Ttr.mu f a H = none := (rfl)
theorem Ttr_trim : Ttr.fn 184 = pureS sTrim := (rfl)
def sLeft : List PVal → Option PVal
 | [.lst xs, .int .i64 n] => match decN xs with | some a => if 0 ≤ n ∧ n ≤ 6000000 then some (numP (a * 2 ^ n.toNat)) else none | _ => none
 | _ => none
theorem sLeft_num {a n : Nat} (ha : len a ≤ 100000) (hn : n ≤ 6000000) : sLeft [.lst ((limbs a).map u64), .int .i64 n] = some (.lst ((limbs (a * 2 ^ n)).map u64)) := by
 simp only [sLeft, decN_num ha]
 rw [if_pos ⟨by omega, by omega⟩]
 rfl
theorem left_step {l : List Nat} {j lo hi h : Nat} (hw : Wf l) (hlo : h + lo < B) (hhi : hi < B) (hj : j + 1 < l.length) :
  Wf ((l.set j (h + lo)).set (j + 1) hi) ∧ ((l.set j (h + lo)).set (j + 1) hi).length = l.length ∧
  val (((l.set j (h + lo)).set (j + 1) hi).take (j + 1)) = val (l.take j) + B ^ j * (h + lo) ∧ ((l.set j (h + lo)).set (j + 1) hi)[j + 1]? = some hi ∧
  ((l.set j (h + lo)).set (j + 1) hi).drop (j + 2) = l.drop (j + 2) := by
 refine ⟨(hw.set _ hlo).set _ hhi, by simp, ?_, by simp [hj], ?_⟩
 ·rw [take_set, val_take_set (by omega)]
 ·rw [List.drop_set_of_lt (by omega), List.drop_set_of_lt (by omega)]
theorem left_ok : FnOk Tryz.prog base 199 (pureS sLeft) := by
 refine pure_of_vc hmix Ttr_ok globNone low199 fun args z hs hf => ?_
 unfold sLeft at hs
 split at hs
 case h_2 => cases hs
 rename_i xs n
 split at hs
 case h_2 => cases hs
 rename_i a ha
 split at hs
 case isFalse => cases hs
 rename_i hn
 cases hs
 obtain ⟨rfl, hla⟩ := decN_some ha
 obtain ⟨n, rfl⟩ := Int.eq_ofNat_of_zero_le hn.1
 simp only [Int.toNat_natCast] at hn ⊢
 have hn := hn.2
 refine ⟨by simp [lf199], ?_⟩
 have la : (limbs a).length = len a := rfl
 have wa := wf_limbs a
 obtain ⟨w, hw⟩ : ∃ w, w = n / 64 := ⟨_, rfl⟩
 obtain ⟨s, hs⟩ : ∃ s, s = n % 64 := ⟨_, rfl⟩
 have hs64 : s < 64 := by omega
 obtain ⟨M, hM⟩ : ∃ M, M = len a + w := ⟨_, rfl⟩
 obtain ⟨N, hN⟩ : ∃ N, N = M + 1 := ⟨_, rfl⟩
 have hcap := mul_capI N (by omega)
 have q1 : IntKind.i64.wrap ((n : Int).tdiv 64) = (w : Int) := by rw [Int.tdiv_eq_ediv_of_nonneg (by omega), IntWalk.i64_in _ (by omega)]; omega
 have q1' : IntKind.i64.wrap ((n : Int) / 64) = (w : Int) := by rw [IntWalk.i64_in _ (by omega)]; omega
 have q2 : (n : Int).tmod 64 = (s : Int) := by rw [Int.tmod_eq_emod_of_nonneg (by omega)]; omega
 have q2' : (n : Int) % 64 = (s : Int) := by omega
 have q3 : IntKind.u64.wrap (s : Int) = s := IntWalk.u64_in _ (by omega)
 have hw1 : IntKind.i64.wrap ((len a : Int) + w) = (M : Int) := by rw [← Int.natCast_add, ← hM]; exact wrap_i (by omega)
 have hw2 : IntKind.i64.wrap ((M : Int) + 1) = (N : Int) := by rw [wrap_succ (i := M) (by omega), hN]
 have hpow : 2 ^ n = B ^ w * 2 ^ s := by rw [B_pow, ← Nat.pow_add, show 64 * w + s = n by omega]
 simp [lf199, la, q1, q1', q2, q2', q3, hw1, hw2, hcap]
 simp only [lf199_B0, vc_block]
 refine loop_ind (fun fr H => ∃ (i h : Nat) (l : List Nat), i ≤ len a ∧ l.length = N ∧ Wf l ∧ h < 2 ^ s ∧ l[i + w]? = some h ∧ val (l.take (i + w)) + B ^ (i + w) * h = val ((limbs a).take i) * 2 ^ n ∧ l.drop (i + w + 1) = List.replicate (len a - i) 0 ∧ H = [rowE 0 l] ∧
   fr 1 = .p (.int .i64 n) ∧ fr 5 = .own 0 0 N 0 ∧ fr 6 = .p (.int .u64 s) ∧ fr 19 = .p (.lst ((limbs a).map u64)) ∧ fr 20 = .p (.int .i64 (len a)) ∧ fr 21 = .p (.int .i64 i))
  (fun fr _ => len a - ivar (fr 21)) ⟨0, 0, List.replicate N 0, by omega, by simp, Wf.zeros _, Nat.two_pow_pos s, by rw [List.getElem?_replicate, if_pos (by omega)], ?_, ?_, by simp [rowE], by simp, by simp, by simp, by simp, by simp, by simp⟩ ?_
 ·simp [val_nil, val_zeros, List.take_replicate]
 ·simp [List.drop_replicate]; omega
 rintro fr H ⟨i, h, l, hi, hl, hwl, hh, hlh, hv, hz, rfl, h1, h5, h6, h19, h20, h21⟩
 by_cases hlt : i < len a
 ·obtain ⟨x, hx⟩ : ∃ x, (limbs a)[i]? = some x := ⟨_, List.getElem?_eq_getElem (by omega)⟩
  have hxB := wa.get hx
  obtain ⟨j, hj⟩ : ∃ j, j = i + w := ⟨_, rfl⟩
  have hw3 : IntKind.i64.wrap ((i : Int) + w) = (j : Int) := by rw [← Int.natCast_add, ← hj]; exact wrap_i (by omega)
  have hw4 := wrap_succ (i := j) (by omega)
  obtain ⟨j1, hj1⟩ : ∃ k, k = j + 1 := ⟨_, rfl⟩
  rw [← hj1] at hw4
  obtain ⟨lo, hlo⟩ : ∃ t, t = x * 2 ^ s % B := ⟨_, rfl⟩
  obtain ⟨hb, hhb⟩ : ∃ t, t = x * 2 ^ s / B := ⟨_, rfl⟩
  have hsum : h + lo < B := by rw [hlo]; exact shl_sum_lt (by omega) hh
  have hbl : hb < 2 ^ s := by rw [hhb]; exact shl_high_lt hxB
  have hbB : hb < B := Nat.lt_of_lt_of_le hbl (by rw [← pow64]; exact Nat.pow_le_pow_right (by omega) (by omega))
  have e1 : shiftI .shl .u64 x s = some (.int .u64 lo) := by rw [shl_word (by omega), hlo]
  have e2 : shiftI .shr .u64 x ((64 - s : Nat) : Int) = some (.int .u64 hb) := by rw [shr_word (by omega), hhb, shl_high (by omega)]
  have e3 : IntKind.u64.wrap (64 - (s : Int)) = ((64 - s : Nat) : Int) := by rw [IntWalk.u64_in _ (by omega)]; omega
  have hloB : lo < B := by omega
  have e4 := or_bits (x := h) (y := lo) (by omega) hloB
  rw [show h ||| lo = h + lo by rw [hlo]; exact or_shl (by omega) hh] at e4
  have e5 : IntKind.u64.wrap ((hb : Int) % 2 ^ IntKind.u64.bits) = (hb : Int) := by
   have : (hb : Int) % 2 ^ IntKind.u64.bits = hb := Int.emod_eq_of_lt (by omega) (by have := hbB; rw [B_lit] at this; show (hb : Int) < 2 ^ 64; omega)
   rw [this, wrap_u hbB]
  obtain ⟨t, ht⟩ : ∃ t, t = h + lo := ⟨_, rfl⟩
  rw [← ht] at e4
  rw [← hj] at hlh
  have hjN : j < N := by omega
  have hj1N : j1 < N := by omega
  have hjl : j < l.length := by omega
  have hz1 : l[j1]? = some 0 := by
   have := congrArg (fun t => t[0]?) hz
   simp only [List.getElem?_drop] at this
   rw [← hj, ← hj1, List.getElem?_replicate, if_pos (by omega)] at this
   exact this
  have hne : j ≠ j1 := by omega
  obtain ⟨s1, s2, s3, s4, s5⟩ := left_step (j := j) hwl hsum hbB (by omega)
  rw [← hj1] at s1 s2 s3 s4 s5
  have hfin : ∀ L : List Nat, L = (l.set j (h + lo)).set j1 hb → i + 1 ≤ len a ∧ L.length = N ∧ Wf L ∧ hb < 2 ^ s ∧ L[i + 1 + w]? = some hb ∧ val (L.take (i + 1 + w)) + B ^ (i + 1 + w) * hb = val ((limbs a).take (i + 1)) * 2 ^ n ∧
    L.drop (i + 1 + w + 1) = List.replicate (len a - (i + 1)) 0 := by
   rintro L rfl
   rw [show i + 1 + w = j1 by omega]
   refine ⟨by omega, by omega, s1, hbl, s4, ?_, ?_⟩
   ·rw [s3, val_take_succ hx, hlo, hhb, hj1, Nat.pow_succ]
    refine shl_step (by rw [hj]; exact hv) ?_
    rw [hpow, hj, Nat.pow_add]
    rw [Nat.mul_assoc, Nat.mul_comm]
   ·rw [show j1 + 1 = j + 2 by omega, s5, show j + 2 = (i + w + 1) + 1 by omega, ← List.drop_drop, hz, List.drop_replicate, show len a - i - 1 = len a - (i + 1) by omega]
  by_cases hs0 : 0 < s
  ·have hsI : (0 : Int) < s := by omega
   simp [-BitVec.toNat_or, h1, h5, h6, h19, h20, h21, hlt, hx, getE hx, la, q1, q1', hw3, hw4, e1, e2, e3, e4, e5, hjN, hj1N, hlh, hz1, hne, hs0, hsI, rowE, wrap_succ (i := i) (by omega), ivar]
   obtain ⟨c1, c2, c3, c4, c5, c6, c7⟩ := hfin _ rfl
   exact ⟨⟨i + 1, c1, hb, _, c2, c3, c4, c5, c6, c7, by rw [List.map_set, List.map_set, ← ht]; rfl, by omega⟩, by omega⟩
  ·have hsz : s = 0 := by omega
   subst hsz
   have e1 : shiftI .shl .u64 (x : Int) 0 = some (.int .u64 lo) := e1
   simp [-BitVec.toNat_or, h1, h5, h6, h19, h20, h21, hlt, hx, getE hx, la, q1, q1', hw3, hw4, e1, e4, hjN, hlh, rowE, wrap_succ (i := i) (by omega), ivar]
   have hb0 : hb = 0 := by omega
   have hL : l.set j (h + lo) = (l.set j (h + lo)).set j1 hb := by
    rw [hb0]
    exact (set_same (by rw [List.getElem?_set_ne (by omega)]; exact hz1)).symm
   obtain ⟨c1, c2, c3, c4, c5, c6, c7⟩ := hfin _ hL
   exact ⟨⟨i + 1, c1, hb, _, c2, c3, hb0, c5, c6, c7, by rw [List.map_set, ← ht]; rfl, by omega⟩, by omega⟩
 ·have hil : i = len a := by omega
  subst hil
  have hvl : val l = a * 2 ^ n := by
   have h2 := val_split l (i := len a + w) (by omega)
   rw [drop_get hlh, hz, Nat.sub_self, List.replicate_zero] at h2
   rw [h2, val_cons, val_nil, Nat.mul_zero, Nat.add_zero, hv, List.take_of_length_le (by omega), val_limbs]
  obtain ⟨hT, ht⟩ := row_end hl hwl (by omega) hvl
  simp [h5, h20, h21, rowE, hl, hT, ht, mapO_au_take, mapO_au, touch_au, touch_au_take, Ttr_mu, Ttr_trim]
end Go.Proofs.YtepfpgnjpkcgmaaGreat

/-
 nat: a number by a power of two.
-/
namespace Go.Proofs.YtepfpgnjpkcgmaaGreat
open Go Go.Abs Go.Limbs
variable {base : Prot}
set_option maxRecDepth 20000
attribute [local irreducible] vc
attribute [local simp] pureS touchV freezeL fuel shiftV u64 au
theorem sizeOk_u64 (l : List Nat) : sizeOk 1 (l.map u64) = true := by
 simp [sizeOk]
def sRight : List PVal → Option PVal
 | [.lst xs, .int .i64 n] => match decN xs with | some a => if 0 ≤ n ∧ n < 9223372036854775807 then some (numP (a / 2 ^ n.toNat)) else none | _ => none
 | _ => none
theorem sRight_num {a n : Nat} (ha : len a ≤ 100000) (hn : n < 9223372036854775807) : sRight [.lst ((limbs a).map u64), .int .i64 n] = some (.lst ((limbs (a / 2 ^ n)).map u64)) := by
 simp only [sRight, decN_num ha]
 rw [if_pos ⟨by omega, by omega⟩]
 rfl
theorem right_limb {A : List Nat} {i x s : Nat} (wA : Wf A) (hx : A[i]? = some x) (hs : s ≤ 64) : val A / 2 ^ s / B ^ i % B =
  if h : s = 0 then x else match A[i + 1]? with | some y => x / 2 ^ s + y * 2 ^ (64 - s) % B | none => x / 2 ^ s := by
 have hxB := wA.get hx
 have e : val A / 2 ^ s / B ^ i = val (A.drop i) / 2 ^ s := by rw [val_drop_eq wA, Nat.div_div_eq_div_mul, Nat.div_div_eq_div_mul, Nat.mul_comm]
 rw [e, val_drop hx]
 split
 ·rename_i h
  subst h
  rw [Nat.pow_zero, Nat.div_one, Nat.add_mul_mod_self_left, Nat.mod_eq_of_lt hxB]
 ·cases hy : A[i + 1]? with
  | some y => rw [val_drop hy]; exact shr_limb hs hxB
  | none =>
   have := List.getElem?_eq_none_iff.1 hy
   rw [List.drop_eq_nil_of_le this, val_nil, Nat.mul_zero, Nat.add_zero]
   exact Nat.mod_eq_of_lt (Nat.lt_of_le_of_lt (Nat.div_le_self _ _) hxB)
theorem right_ok : FnOk Tryz.prog base 206 (pureS sRight) := by
 refine pure_of_vc hmix Ttr_ok globNone low206 fun args z hs hf => ?_
 unfold sRight at hs
 split at hs
 case h_2 => cases hs
 rename_i xs n
 split at hs
 case h_2 => cases hs
 rename_i a ha
 split at hs
 case isFalse => cases hs
 rename_i hn
 cases hs
 obtain ⟨rfl, hla⟩ := decN_some ha
 obtain ⟨n, rfl⟩ := Int.eq_ofNat_of_zero_le hn.1
 simp only [Int.toNat_natCast] at hn ⊢
 have hn := hn.2
 refine ⟨by simp [lf206], ?_⟩
 have la : (limbs a).length = len a := rfl
 have wa := wf_limbs a
 obtain ⟨w, hw⟩ : ∃ w, w = n / 64 := ⟨_, rfl⟩
 obtain ⟨s, hs⟩ : ∃ s, s = n % 64 := ⟨_, rfl⟩
 have hs64 : s < 64 := by omega
 have q1' : IntKind.i64.wrap ((n : Int) / 64) = (w : Int) := by rw [IntWalk.i64_in _ (by omega)]; omega
 have q1 : IntKind.i64.wrap ((n : Int).tdiv 64) = (w : Int) := by rw [Int.tdiv_eq_ediv_of_nonneg (by omega), q1']
 have q2 : (n : Int).tmod 64 = (s : Int) := by rw [Int.tmod_eq_emod_of_nonneg (by omega)]; omega
 have q3 : IntKind.u64.wrap (s : Int) = s := IntWalk.u64_in _ (by omega)
 have hpow : 2 ^ n = B ^ w * 2 ^ s := by rw [B_pow, ← Nat.pow_add, show 64 * w + s = n by omega]
 by_cases hwl : len a ≤ w
 ·have hz : a / 2 ^ n = 0 := by
   refine Nat.div_eq_of_lt (Nat.lt_of_lt_of_le (lt_len a) (Nat.le_trans (Bpow_le hwl) ?_))
   rw [hpow]
   exact Nat.le_mul_of_pos_right _ (Nat.two_pow_pos s)
  rw [hz]
  simp [lf206, la, q1, q1', hwl, numP, lstP, limbs_zero]
 ·obtain ⟨A, hA⟩ : ∃ A, A = (limbs a).drop w := ⟨_, rfl⟩
  have wA : Wf A := by rw [hA]; exact wa.drop _
  have hAv : val A = a / B ^ w := by rw [hA, val_drop_eq wa, val_limbs]
  have hAl : A.length = len a - w := by rw [hA]; simp [la]
  have hAA : List.drop w (List.take (len a) (List.map u64 (limbs a))) = A.map u64 := by
   rw [List.take_of_length_le (by simp [la]), hA, List.map_drop]
  have hAA' : List.drop w (List.map u64 (limbs a)) = A.map u64 := by rw [hA, List.map_drop]
  have hwle : w ≤ len a := by omega
  have hdiv : a / 2 ^ n = val A / 2 ^ s := by rw [hAv, Nat.div_div_eq_div_mul, ← hpow]
  have hcap := mul_capI A.length (by omega)
  rw [hdiv]
  simp [lf206, la, q1, q1', q2, q3, hwl, hwle, hAA, hAA', sizeOk_u64, hcap]
  simp only [lf206_B0, vc_block]
  refine loop_ind (fun fr H => ∃ (i : Nat) (l : List Nat), i ≤ A.length ∧ l.length = A.length ∧ Wf l ∧ val (l.take i) = val A / 2 ^ s % B ^ i ∧ H = [rowE 0 l] ∧ fr 0 = .p (.lst (A.map u64)) ∧
    fr 5 = .p (.int .u64 s) ∧ fr 6 = .own 0 0 A.length 0 ∧ fr 24 = .p (.lst (A.map u64)) ∧ fr 25 = .p (.int .i64 A.length) ∧ fr 26 = .p (.int .i64 i))
   (fun fr _ => A.length - ivar (fr 26)) ⟨0, List.replicate A.length 0, by omega, by simp, Wf.zeros _, by simp [val_nil, Nat.mod_one], by simp [rowE], by simp, by simp, by simp, by simp, by simp, by simp⟩ ?_
  rintro fr H ⟨i, l, hi, hl, hwfl, hv, rfl, h0, h5, h6, h24, h25, h26⟩
  by_cases hlt : i < A.length
  ·obtain ⟨x, hx⟩ : ∃ x, A[i]? = some x := ⟨_, List.getElem?_eq_getElem hlt⟩
   have hxB := wA.get hx
   have hil : i < l.length := by omega
   obtain ⟨o, ho⟩ : ∃ o, l[i]? = some o := ⟨_, List.getElem?_eq_getElem hil⟩
   obtain ⟨xs, hxs⟩ : ∃ t, t = x / 2 ^ s := ⟨_, rfl⟩
   have hxsB : xs < B := by rw [hxs]; exact Nat.lt_of_le_of_lt (Nat.div_le_self _ _) hxB
   have e1 : shiftI .shr .u64 x s = some (.int .u64 xs) := by rw [shr_word (by omega), hxs]
   have hlimb := right_limb wA hx (show s ≤ 64 by omega)
   have step : ∀ t, val A / 2 ^ s / B ^ i % B = t → val ((l.set i t).take (i + 1)) = val A / 2 ^ s % B ^ (i + 1) := fun t ht => by
    rw [val_take_set hil, hv, mod_step ht]
   have hw5 := wrap_succ (i := i) (by omega)
   by_cases hs0 : s = 0
   ·rw [dif_pos hs0] at hlimb
    subst hs0
    have e1 : shiftI .shr .u64 (x : Int) 0 = some (.int .u64 xs) := e1
    have hxx : xs = x := by rw [hxs]; simp
    subst hxx
    simp [h0, h5, h6, h24, h25, h26, hlt, getE hx, e1, hil, getE ho, rowE, hw5, ivar]
    exact ⟨⟨i + 1, by omega, l.set i xs, by simp [hl], hwfl.set _ hxsB, by simpa using step _ hlimb, by rw [List.map_set]; rfl, by omega⟩, by omega⟩
   ·rw [dif_neg hs0] at hlimb
    have hsI : (0 : Int) < s := by omega
    have hsN : 0 < s := by omega
    by_cases hlt2 : i + 1 < A.length
    ·obtain ⟨y, hy⟩ : ∃ y, A[i + 1]? = some y := ⟨_, List.getElem?_eq_getElem hlt2⟩
     rw [hy] at hlimb
     simp only at hlimb
     obtain ⟨lo, hlo⟩ : ∃ t, t = y * 2 ^ (64 - s) % B := ⟨_, rfl⟩
     have hloB : lo < B := by rw [hlo]; exact Nat.mod_lt _ B_pos
     have e2 : shiftI .shl .u64 y ((64 - s : Nat) : Int) = some (.int .u64 lo) := by rw [shl_word (by omega), hlo]
     have e3 : IntKind.u64.wrap (64 - (s : Int)) = ((64 - s : Nat) : Int) := by rw [IntWalk.u64_in _ (by omega)]; omega
     have e4 := or_bits hxsB hloB
     rw [show xs ||| lo = xs + lo by rw [hxs, hlo]; exact shr_or (by omega) hxB] at e4
     obtain ⟨t, ht⟩ : ∃ t, t = xs + lo := ⟨_, rfl⟩
     rw [← ht] at e4
     have htB : t < B := by rw [← hxs, ← hlo, ← ht] at hlimb; rw [← hlimb]; exact Nat.mod_lt _ B_pos
     obtain ⟨i1, hi1⟩ : ∃ k, k = i + 1 := ⟨_, rfl⟩
     rw [← hi1] at hw5 hy
     have hlt3 : i1 < A.length := by omega
     rw [← hxs, ← hlo, ← ht] at hlimb
     simp [h0, h5, h6, h24, h25, h26, hlt, hlt3, getE hx, e1, hil, getE ho, hsI, hsN, rowE, hw5]
     rw [vc_regionW]
     refine ⟨[], ?_⟩
     simp [-BitVec.toNat_or, h0, h5, h6, h24, h25, h26, hlt, hlt3, getE hx, getE hy, e1, e2, e3, e4, hil, getE ho, rowE, hw5, ivar]
     exact ⟨⟨i1, by omega, l.set i t, by simp [hl], hwfl.set _ htB, by rw [hi1]; exact step _ hlimb, by rw [List.map_set]; rfl, rfl⟩, by omega⟩
    ·have hy : A[i + 1]? = none := List.getElem?_eq_none (by omega)
     rw [hy] at hlimb
     simp only at hlimb
     rw [← hxs] at hlimb
     obtain ⟨i1, hi1⟩ : ∃ k, k = i + 1 := ⟨_, rfl⟩
     rw [← hi1] at hw5
     have hlt3 : ¬ i1 < A.length := by omega
     simp [h0, h5, h6, h24, h25, h26, hlt, hlt3, getE hx, e1, hil, getE ho, hsI, hsN, rowE, hw5, ivar]
     exact ⟨⟨i1, by omega, l.set i xs, by simp [hl], hwfl.set _ hxsB, by rw [hi1]; exact step _ hlimb, by rw [List.map_set]; rfl, rfl⟩, by omega⟩
  ·have hil : i = A.length := by omega
   subst hil
   have hvl : val l = val A / 2 ^ s := by
    rw [List.take_of_length_le (by omega)] at hv
    rw [hv]
    exact Nat.mod_eq_of_lt (Nat.lt_of_le_of_lt (Nat.div_le_self _ _) (val_lt wA))
   obtain ⟨hT, ht⟩ := row_end hl hwfl (by omega) hvl
   simp [h6, h25, h26, rowE, hl, hT, ht, mapO_au_take, mapO_au, touch_au, touch_au_take, Ttr_mu, Ttr_trim]
end Go.Proofs.YtepfpgnjpkcgmaaGreat

/-
 nat: the guess of a quotient's digit.
-/
namespace Go.Proofs.YtepfpgnjpkcgmaaGreat
open Go Go.Abs Go.Limbs
variable {base : Prot}
set_option maxRecDepth 20000
attribute [local irreducible] vc
attribute [local simp] pureS touchV freezeL fuel shiftV u64 au
def Tgs : Tab := ((Tab.none.with 189 (pureS sMul64)).with 212 (pureS sDiv64)).ext 190 sAdd64
theorem Tgs_ok : TabOk Tryz.prog base Tgs := Tab.ext_ok (Tab.with_ok (Tab.with_ok Tab.none_ok mul64_ok) div64_ok) add64_at
theorem Tgs_mu (f : FuncId) (a : List AVal) (H : Heap) : Tgs.mu f a H = none := (rfl)
theorem Tgs_mul : Tgs.fn 189 = pureS sMul64 := (rfl)
theorem Tgs_div : Tgs.fn 212 = pureS sDiv64 := (rfl)
theorem Tgs_add : Tgs.ex 190 = sAdd64 := (rfl)
def sGuess : List PVal → Option PVal
 | [.int .u64 h, .int .u64 l, .int .u64 x, .int .u64 d, .int .u64 e] => if (0 ≤ h ∧ h.toNat < B) ∧ (0 ≤ l ∧ l.toNat < B) ∧ (0 ≤ x ∧ x.toNat < B) ∧ (0 ≤ d ∧ d.toNat < B) ∧ (0 ≤ e ∧ e.toNat < B) then
   some (.int .u64 (guessN h.toNat l.toNat x.toNat d.toNat e.toNat)) else none
 | _ => none
theorem sGuess_nat {h l x d e : Nat} (hh : h < B) (hl : l < B) (hx : x < B) (hd : d < B) (he : e < B) : sGuess [.int .u64 h, .int .u64 l, .int .u64 x, .int .u64 d, .int .u64 e] = some (.int .u64 (guessN h l x d e)) := by
 unfold sGuess
 simp only [Int.toNat_natCast]
 rw [if_pos ⟨⟨by omega, hh⟩, ⟨by omega, hl⟩, ⟨by omega, hx⟩, ⟨by omega, hd⟩, ⟨by omega, he⟩⟩]
theorem guess_cond {q d r x : Nat} (hx : x < B) : q * d ≤ r * B + x ↔ mulH q d < r ∨ mulH q d = r ∧ mulL q d ≤ x := by
 have e := Nat.mod_add_div (q * d) B
 have h1 := Nat.mod_lt (q * d) B_pos
 unfold mulH mulL
 generalize q * d / B = m at *
 generalize q * d % B = n at *
 constructor
 ·intro h
  by_cases h2 : m < r
  ·exact .inl h2
  ·by_cases h3 : m = r
   ·subst h3
    rw [Nat.mul_comm m B] at h
    exact .inr ⟨rfl, by omega⟩
   ·exfalso
    have : B * (r + 1) ≤ B * m := Nat.mul_le_mul_left _ (by omega)
    rw [Nat.mul_add, Nat.mul_one, Nat.mul_comm B r] at this
    omega
 ·rintro (h | ⟨rfl, h⟩)
  ·have : B * (m + 1) ≤ B * r := Nat.mul_le_mul_left _ (by omega)
   rw [Nat.mul_add, Nat.mul_one, Nat.mul_comm B r] at this
   omega
  ·rw [Nat.mul_comm m B]; omega
theorem guessL_hit {d1 d2 x q r : Nat} (h : q * d2 ≤ r * B + x) : guessL d1 d2 x q r = q := by
 cases q with
 | zero => rfl
 | succ q => rw [guessL, if_pos h]
theorem guessL_stop {d1 d2 x q r : Nat} (h : ¬ (q + 1) * d2 ≤ r * B + x) (h2 : B ≤ r + d1) : guessL d1 d2 x (q + 1) r = q := by rw [guessL, if_neg h, if_pos h2]
theorem guessL_next {d1 d2 x q r : Nat} (h : ¬ (q + 1) * d2 ≤ r * B + x) (h2 : ¬ B ≤ r + d1) : guessL d1 d2 x (q + 1) r = guessL d1 d2 x q (r + d1) := by rw [guessL, if_neg h, if_neg h2]
theorem guess_ok : FnOk Tryz.prog base 203 (pureS sGuess) := by
 refine pure_of_vc hmix Tgs_ok globNone low203 fun args z hs hf => ?_
 unfold sGuess at hs
 split at hs
 case h_2 => cases hs
 rename_i h l x d e
 split at hs
 case isFalse => cases hs
 rename_i hc
 cases hs
 obtain ⟨h, rfl⟩ := Int.eq_ofNat_of_zero_le hc.1.1
 obtain ⟨l, rfl⟩ := Int.eq_ofNat_of_zero_le hc.2.1.1
 obtain ⟨x, rfl⟩ := Int.eq_ofNat_of_zero_le hc.2.2.1.1
 obtain ⟨d, rfl⟩ := Int.eq_ofNat_of_zero_le hc.2.2.2.1.1
 obtain ⟨e, rfl⟩ := Int.eq_ofNat_of_zero_le hc.2.2.2.2.1
 simp only [Int.toNat_natCast] at hc ⊢
 obtain ⟨⟨-, hh⟩, ⟨-, hl⟩, ⟨-, hx⟩, ⟨-, hd⟩, ⟨-, he⟩⟩ := hc
 refine ⟨by simp [lf203], ?_⟩
 by_cases hdh : d ≤ h
 ·have hg : (guessN h l x d e : Int) = 18446744073709551615 := by
   unfold guessN
   rw [if_pos hdh]
   rfl
  simp [lf203, hdh, hg]
 ·obtain ⟨G, hG⟩ : ∃ G, G = guessN h l x d e := ⟨_, rfl⟩
  have hG2 := hG
  unfold guessN at hG2
  rw [if_neg hdh] at hG2
  have hD := sDiv64_nat (show h < d by omega) hl hd
  rw [← hG]
  simp [lf203, hdh, hD, Tgs_mu, Tgs_div]
  simp only [lf203_B0, vc_block]
  refine loop_ind (fun fr H => ∃ q r : Nat, q < B ∧ r < B ∧ G = guessL d e x q r ∧ H = [] ∧ fr 2 = .p (.int .u64 x) ∧ fr 3 = .p (.int .u64 d) ∧ fr 4 = .p (.int .u64 e) ∧ fr 11 = .p (.int .u64 q) ∧ fr 12 = .p (.int .u64 r))
   (fun fr _ => ivar (fr 11)) ⟨divQ h l d, divR h l d, div_lt (by omega) hl, Nat.lt_of_lt_of_le (Nat.mod_lt _ (by omega)) (by omega), hG2, rfl, by simp, by simp, by simp, by simp, by simp⟩ ?_
  rintro fr H ⟨q, r, hq, hr, hg, rfl, h2, h3, h4, h11, h12⟩
  have hM := sMul64_nat hq he
  have hcond := guess_cond (q := q) (d := e) (r := r) hx
  have go : q * e ≤ r * B + x → G = q := fun hc => by rw [hg, guessL_hit hc]
  have stop : ¬ q * e ≤ r * B + x → ∃ q', q = q' + 1 := fun hc => by
   rcases Nat.eq_zero_or_pos q with h0 | h0
   ·subst h0; exact absurd (by simp) hc
   ·exact ⟨q - 1, by omega⟩
  obtain ⟨m, hm⟩ : ∃ m, m = mulH q e := ⟨_, rfl⟩
  obtain ⟨n, hn⟩ : ∃ n, n = mulL q e := ⟨_, rfl⟩
  rw [← hm, ← hn] at hM hcond
  have rest : ∀ q', q = q' + 1 → ¬ q * e ≤ r * B + x → IntKind.u64.wrap ((q : Int) - 1) = (q' : Int) := fun q' e1 _ => by rw [IntWalk.u64_in _ (by rw [B_lit] at hq; omega)]; omega
  have hA := sAdd64_zero (x := r) (y := d)
  have over : 0 < addC r d 0 ↔ B ≤ r + d := by
   unfold addC
   rw [Nat.add_zero, Nat.div_pos_iff]
   have := B_pos
   omega
  have same : ¬ B ≤ r + d → addD r d 0 = r + d := fun h => by unfold addD; rw [Nat.add_zero, Nat.mod_eq_of_lt (by omega)]
  obtain ⟨r', hr'⟩ : ∃ t, t = addD r d 0 := ⟨_, rfl⟩
  obtain ⟨o, ho⟩ : ∃ t, t = addC r d 0 := ⟨_, rfl⟩
  rw [← hr', ← ho] at hA
  rw [← ho] at over
  rw [← hr'] at same
  by_cases c1 : m < r
  ·have := go (hcond.2 (.inl c1))
   subst this
   simp [h2, h3, h4, h11, h12, hM, c1, Tgs_mu, Tgs_mul]
  ·have tail : ¬ q * e ≤ r * B + x → ∃ q', q = q' + 1 ∧ IntKind.u64.wrap ((q : Int) - 1) = (q' : Int) ∧ q' < B ∧ ((0 < o ∧ G = q') ∨ (¬ 0 < o ∧ G = guessL d e x q' r' ∧ r' < B)) := fun hc => by
    obtain ⟨q', e1⟩ := stop hc
    refine ⟨q', e1, rest q' e1 hc, by omega, ?_⟩
    subst e1
    by_cases h0 : 0 < o
    ·exact .inl ⟨h0, by rw [hg, guessL_stop hc (over.1 h0)]⟩
    ·have h5 : ¬ B ≤ r + d := fun h6 => h0 (over.2 h6)
     exact .inr ⟨h0, by rw [hg, guessL_next hc h5, same h5], by rw [same h5]; omega⟩
   by_cases c2 : m = r
   ·have hb2 : ((m : Int) == (r : Int)) = true := by simp [c2]
    by_cases c3 : n ≤ x
    ·have := go (hcond.2 (.inr ⟨c2, c3⟩))
     subst this
     simp [h2, h3, h4, h11, h12, hM, c1, hb2, c3, Tgs_mu, Tgs_mul]
    ·obtain ⟨q', e1, e2, e3, e4⟩ := tail (fun hc => by rcases hcond.1 hc with h | ⟨_, h⟩ <;> omega)
     rcases e4 with ⟨e5, e6⟩ | ⟨e5, e6, e7⟩
     ·subst e6
      have e5I : (0 : Int) < o := by omega
      simp [h2, h3, h4, h11, h12, hM, c1, hb2, c3, e2, hA, e5, e5I, Tgs_mu, Tgs_mul, Tgs_add]
     ·have e5I : ¬ (0 : Int) < o := by omega
      simp [h2, h3, h4, h11, h12, hM, c1, hb2, c3, e2, hA, e5, e5I, Tgs_mu, Tgs_mul, Tgs_add, ivar]
      exact ⟨⟨q', e3, r', e7, e6, rfl, rfl⟩, by omega⟩
   ·have hb2 : ((m : Int) == (r : Int)) = false := beq_false_of_ne (by omega)
    obtain ⟨q', e1, e2, e3, e4⟩ := tail (fun hc => by rcases hcond.1 hc with h | ⟨h, _⟩ <;> omega)
    rcases e4 with ⟨e5, e6⟩ | ⟨e5, e6, e7⟩
    ·subst e6
     have e5I : (0 : Int) < o := by omega
     simp [h2, h3, h4, h11, h12, hM, c1, hb2, e2, hA, e5, e5I, Tgs_mu, Tgs_mul, Tgs_add]
    ·have e5I : ¬ (0 : Int) < o := by omega
     simp [h2, h3, h4, h11, h12, hM, c1, hb2, e2, hA, e5, e5I, Tgs_mu, Tgs_mul, Tgs_add, ivar]
     exact ⟨⟨q', e3, r', e7, e6, rfl, rfl⟩, by omega⟩
end Go.Proofs.YtepfpgnjpkcgmaaGreat
