/-
  What the order, sums, differences and products of rows of limbs compute, for at most 100000 limbs.
-/
import Derived.Test.YtepfpgnjpkcgmaaGreatNatA
import Derived.Test.YtepfpgnjpkcgmaaGreatNatB
import Derived.Lib.Mul64
set_option linter.unusedSimpArgs false
set_option linter.unnecessarySimpa false
set_option linter.unusedVariables false
set_option linter.constructorNameAsVariable false

/-
  nat: the order, and what stands without zeros at the end.
-/
namespace Go.Proofs.YtepfpgnjpkcgmaaGreat
open Go Go.Abs Go.Limbs
variable {base : Prot}
set_option maxRecDepth 20000
attribute [local irreducible] vc
attribute [local simp] pureS touchV freezeL fuel shiftV u64
theorem hmix : Tryz.prog.follows .mixedOrders = true := by kernel_rfl
theorem globNone : GlobOk base gl0 := fun g c h => .junk _
theorem wrap_succ {i : Nat} (h : i < 9223372036854775807) : IntKind.i64.wrap ((i : Int) + 1) = ((i + 1 : Nat) : Int) := by
  rw [IntWalk.i64_in _ (by omega)]; omega
theorem wrap_pred {i : Nat} (h : 0 < i) (h2 : i < 9223372036854775807) : IntKind.i64.wrap ((i : Int) - 1) = ((i - 1 : Nat) : Int) := by
  rw [IntWalk.i64_in _ (by omega)]; omega
def ivar : AVal → Nat
  | .p (.int _ n) => n.toNat
  | _ => 0
/-- How far a number that counts down is above -1. -/
def dvar : AVal → Nat
  | .p (.int _ n) => (n + 1).toNat
  | _ => 0
theorem getE {α : Type} {l : List α} {i : Nat} {x : α} (h : l[i]? = some x) : ∀ hh, l[i]'hh = x := fun hh => by
  have := List.getElem?_eq_some_iff.1 h
  exact this.2
theorem maxLen_ge : 1000000000 ≤ maxLen := by decide
/-! ### cmp.Compare -/
def sNaN (k : IntKind) : List PVal → Option PVal
  | [.int k' _] => if k' = k then some (.bool false) else none
  | _ => none
theorem nan_u_ok : FnOk Tryz.prog base 208 (pureS (sNaN .u64)) := by
  refine pure_of_vc hmix Tab.none_ok globNone low208 fun args z hs hf => ?_
  unfold sNaN at hs
  split at hs
  case h_2 => cases hs
  split at hs
  case isFalse => cases hs
  rename_i e
  subst e
  cases hs
  exact ⟨by simp [lf208], by simp [lf208]⟩
theorem nan_i_ok : FnOk Tryz.prog base 207 (pureS (sNaN .i64)) := by
  refine pure_of_vc hmix Tab.none_ok globNone low207 fun args z hs hf => ?_
  unfold sNaN at hs
  split at hs
  case h_2 => cases hs
  split at hs
  case isFalse => cases hs
  rename_i e
  subst e
  cases hs
  exact ⟨by simp [lf207], by simp [lf207]⟩
def cmpZ (a b : Int) : Int := if a < b then -1 else if a = b then 0 else 1
theorem cmpZ_nat (a b : Nat) : cmpZ a b = cmpI a b := by unfold cmpZ cmpI; simp only [Int.ofNat_lt, Int.ofNat_inj]
def sCompare (k : IntKind) : List PVal → Option PVal
  | [.int k' a, .int k'' b] => if k' = k ∧ k'' = k then some (.int .i64 (cmpZ a b)) else none
  | _ => none
def Tnan : Tab := (Tab.none.with 207 (pureS (sNaN .i64))).with 208 (pureS (sNaN .u64))
theorem Tnan_ok : TabOk Tryz.prog base Tnan := Tab.with_ok (Tab.with_ok Tab.none_ok nan_i_ok) nan_u_ok
theorem Tnan_mu (f : FuncId) (a : List AVal) (H : Heap) : Tnan.mu f a H = none := (rfl)
theorem Tnan_i : Tnan.fn 207 = pureS (sNaN .i64) := (rfl)
theorem Tnan_u : Tnan.fn 208 = pureS (sNaN .u64) := (rfl)
theorem compare_u_ok : FnOk Tryz.prog base 187 (pureS (sCompare .u64)) := by
  refine pure_of_vc hmix Tnan_ok globNone low187 fun args z hs hf => ?_
  unfold sCompare at hs
  split at hs
  case h_2 => cases hs
  rename_i k' a k'' b
  split at hs
  case isFalse => cases hs
  rename_i e
  obtain ⟨rfl, rfl⟩ := e
  cases hs
  refine ⟨by simp [lf187], ?_⟩
  have hn : ∀ x, sNaN .u64 [.int .u64 x] = some (.bool false) := fun x => rfl
  by_cases h1 : a < b
  · simp [lf187, Tnan_mu, Tnan_u, hn, h1, cmpZ]
  · by_cases h2 : a = b
    · subst h2; simp [lf187, Tnan_mu, Tnan_u, hn, cmpZ]
    · have h3 : b < a := by omega
      simp [lf187, Tnan_mu, Tnan_u, hn, h1, h2, h3, cmpZ]
theorem compare_i_ok : FnOk Tryz.prog base 186 (pureS (sCompare .i64)) := by
  refine pure_of_vc hmix Tnan_ok globNone low186 fun args z hs hf => ?_
  unfold sCompare at hs
  split at hs
  case h_2 => cases hs
  rename_i k' a k'' b
  split at hs
  case isFalse => cases hs
  rename_i e
  obtain ⟨rfl, rfl⟩ := e
  cases hs
  refine ⟨by simp [lf186], ?_⟩
  have hn : ∀ x, sNaN .i64 [.int .i64 x] = some (.bool false) := fun x => rfl
  by_cases h1 : a < b
  · simp [lf186, Tnan_mu, Tnan_i, hn, h1, cmpZ]
  · by_cases h2 : a = b
    · subst h2; simp [lf186, Tnan_mu, Tnan_i, hn, cmpZ]
    · have h3 : b < a := by omega
      simp [lf186, Tnan_mu, Tnan_i, hn, h1, h2, h3, cmpZ]
/-! ### trim and Valid -/
def sTrim : List PVal → Option PVal
  | [.lst es] => match decU es with | some l => if l.length ≤ 1000000 then some (numP (val l)) else none | none => none
  | _ => none
theorem sTrim_map {l : List Nat} (h : Wf l) (h2 : l.length ≤ 1000000) : sTrim [.lst (l.map u64)] = some (.lst ((limbs (val l)).map u64)) := by
  simp only [sTrim, decU_map h, if_pos h2]; rfl
theorem trim_ok : FnOk Tryz.prog base 184 (pureS sTrim) := by
  refine pure_of_vc hmix Tab.none_ok globNone low184 fun args z hs hf => ?_
  unfold sTrim at hs
  split at hs
  case h_2 => cases hs
  rename_i es
  split at hs
  case h_2 => cases hs
  rename_i l hd
  split at hs
  case isFalse => cases hs
  rename_i hl
  obtain ⟨rfl, hw⟩ := decU_some hd
  cases hs
  refine ⟨by simp [lf184], ?_⟩
  simp [lf184]
  simp only [lf184_B0, vc_block]
  refine loop_ind (fun fr H => ∃ n : Nat, n ≤ l.length ∧ val (l.take n) = val l ∧ fr 0 = .p (.lst ((l.take n).map u64))) (fun fr _ => match fr 0 with | .p (.lst es) => es.length | _ => 0) ⟨l.length, by omega, by simp, by simp⟩ ?_
  rintro fr H ⟨n, hn, hv, h0⟩
  have hlen : (l.take n).length = n := by simp; omega
  by_cases h : 0 < n
  · obtain ⟨x, hx⟩ : ∃ x, l[n - 1]? = some x := ⟨_, List.getElem?_eq_getElem (by omega)⟩
    have hx' : (l.take n)[n - 1]? = some x := by rw [List.getElem?_take]; simp [show n - 1 < n by omega, hx]
    have hw1 := wrap_pred (i := n) h (by omega)
    generalize hL : l.take n = L at *
    have hgx := getE hx'
    have hlt : n - 1 < L.length := by omega
    by_cases hz : x = 0
    · subst hz
      simp [h0, hlen, h, hw1, hx']
      refine ⟨⟨n - 1, by omega, ?_, ?_⟩, by omega⟩
      · have := trim_step (a := l) (n := n - 1) hx
        rw [show n - 1 + 1 = n by omega, hL] at this
        rw [← this, hv]
      · rw [← hL, ← List.map_take, ← List.map_take, List.take_take, Nat.min_eq_left (by omega)]
    · have hb : ((x : Int) == 0) = false := beq_false_of_ne (by omega)
      have hb2 : ((n : Int) == 0) = false := beq_false_of_ne (by omega)
      have hres : numP (val l) = .lst (L.map u64) := by
        have := trim_done (a := l) (n := n) hw (by rw [hL, hv]) (.inr ⟨x, hx, hz⟩)
        rw [hL] at this
        rw [this]; rfl
      simp [h0, hlen, h, hw1, hx', hb, hb2, hres]
  · have hn0 : n = 0 := by omega
    subst hn0
    have hz : val l = 0 := by rw [← hv]; rfl
    simp [h0, hz, numP, lstP, limbs_zero]
def sValid : List PVal → Option PVal
  | [.lst es] => match decU es with | some l => some (.bool (decide (l.length ≤ 64) && decide (limbs (val l) = l))) | none => none
  | _ => none
theorem canon_last {l : List Nat} (h : Wf l) : limbs (val l) = l ↔ l.getLast? ≠ some 0 := by
  constructor
  · intro e
    rw [← e]
    exact (canon_limbs _).2
  · intro e
    exact limbs_val ⟨h, e⟩
theorem valid_ok : FnOk Tryz.prog base 151 (pureS sValid) := by
  refine pure_of_vc hmix Tab.none_ok globNone low151 fun args z hs hf => ?_
  unfold sValid at hs
  split at hs
  case h_2 => cases hs
  rename_i es
  split at hs
  case h_2 => cases hs
  rename_i l hd
  obtain ⟨rfl, hw⟩ := decU_some hd
  cases hs
  refine ⟨by simp [lf151], ?_⟩
  have hc := canon_last hw
  by_cases h1 : (l.length : Int) ≤ 64
  · have h1' : l.length ≤ 64 := by omega
    by_cases h0 : l.length = 0
    · have : l = [] := List.length_eq_zero_iff.1 h0
      subst this
      simp [lf151, val_nil, limbs_zero]
    · have hw1 := wrap_pred (i := l.length) (by omega) (by omega)
      obtain ⟨x, hx⟩ : ∃ x, l[l.length - 1]? = some x := ⟨_, List.getElem?_eq_getElem (by omega)⟩
      have hb2 : ((l.length : Int) == 0) = false := beq_false_of_ne (by omega)
      have hlast : l.getLast? = some x := by rw [List.getLast?_eq_getElem?]; exact hx
      rw [hlast] at hc
      by_cases hz : x = 0
      · subst hz
        have hne : ¬ limbs (val l) = l := fun e => hc.1 e rfl
        have hb : ((0 : Int) != 0) = false := rfl
        simp [lf151, h1, h1', hw1, hx, hb, hb2, hne]
      · have hb : ((x : Int) != 0) = true := by simp; omega
        have heq : limbs (val l) = l := hc.2 (fun e => hz (by simpa using e))
        simp [lf151, h1, h1', hw1, hx, hb, hb2, heq]
  · have h1' : ¬ l.length ≤ 64 := by omega
    simp [lf151, h1, h1']
/-! ### Order and Cmp -/
def sOrder : List PVal → Option PVal
  | [.lst xs, .lst ys] => match decN xs, decN ys with | some a, some b => some (.int .i64 (cmpI a b)) | _, _ => none
  | _ => none
theorem sOrder_num {a b : Nat} (ha : len a ≤ 100000) (hb : len b ≤ 100000) : sOrder [.lst ((limbs a).map u64), .lst ((limbs b).map u64)] = some (.int .i64 (cmpI a b)) := by
  simp only [sOrder, decN_num ha, decN_num hb]
def Tcmp : Tab := (Tab.none.with 186 (pureS (sCompare .i64))).with 187 (pureS (sCompare .u64))
theorem Tcmp_ok : TabOk Tryz.prog base Tcmp := Tab.with_ok (Tab.with_ok Tab.none_ok compare_i_ok) compare_u_ok
theorem Tcmp_mu (f : FuncId) (a : List AVal) (H : Heap) : Tcmp.mu f a H = none := (rfl)
theorem Tcmp_i : Tcmp.fn 186 = pureS (sCompare .i64) := (rfl)
theorem Tcmp_u : Tcmp.fn 187 = pureS (sCompare .u64) := (rfl)
theorem sCompare_u (a b : Nat) : sCompare .u64 [.int .u64 a, .int .u64 b] = some (.int .i64 (cmpI a b)) := by simp [sCompare, cmpZ_nat]
theorem sCompare_i (a b : Nat) : sCompare .i64 [.int .i64 a, .int .i64 b] = some (.int .i64 (cmpI a b)) := by simp [sCompare, cmpZ_nat]
theorem cmpI_first {a b : List Nat} {i x y : Nat} (ha : Wf a) (hb : Wf b) (hd : a.drop (i + 1) = b.drop (i + 1)) (hx : a[i]? = some x) (hy : b[i]? = some y) (h : x ≠ y) : cmpI (val a) (val b) = cmpI x y := by
  by_cases h1 : x < y
  · rw [cmpI_lt h1, cmpI_lt (lt_of_first ha hd hx hy h1)]
  · have h2 : y < x := by omega
    rw [cmpI_gt h2, cmpI_gt (lt_of_first hb hd.symm hy hx h2)]
theorem order_ok : FnOk Tryz.prog base 152 (pureS sOrder) := by
  refine pure_of_vc hmix Tcmp_ok globNone low152 fun args z hs hf => ?_
  unfold sOrder at hs
  split at hs
  case h_2 => cases hs
  rename_i xs ys
  split at hs
  case h_2 => cases hs
  rename_i a b ha hb
  cases hs
  obtain ⟨rfl, hla⟩ := decN_some ha
  obtain ⟨rfl, hlb⟩ := decN_some hb
  refine ⟨by simp [lf152], ?_⟩
  have wa := wf_limbs a
  have wb := wf_limbs b
  have va := val_limbs a
  have vb := val_limbs b
  have la : len a = (limbs a).length := rfl
  have lb : len b = (limbs b).length := rfl
  by_cases h : (limbs a).length = (limbs b).length
  · have hbn : (((limbs a).length : Int) != ((limbs b).length : Int)) = false := by simp [h]
    simp [lf152, hbn]
    simp only [lf152_B0, vc_block]
    refine loop_ind (fun fr H => ∃ n : Nat, n ≤ (limbs a).length ∧ (limbs a).drop n = (limbs b).drop n ∧ fr 0 = .p (.lst ((limbs a).map u64)) ∧ fr 1 = .p (.lst ((limbs b).map u64)) ∧ fr 5 = .p (.int .i64 ((n : Int) - 1)))
      (fun fr _ => dvar (fr 5)) ⟨(limbs a).length, by omega, by rw [List.drop_length, h, List.drop_length], by simp, by simp, ?_⟩ ?_
    · rw [← h]
      simp [IntWalk.i64_in ((limbs a).length - 1) (by omega)]
    rintro fr H ⟨n, hn, hd, h0, h1, h5⟩
    by_cases hn0 : 0 < n
    · obtain ⟨m, rfl⟩ : ∃ m, n = m + 1 := ⟨n - 1, by omega⟩
      have e5 : (((m + 1 : Nat) : Int) - 1) = (m : Int) := by omega
      rw [e5] at h5
      obtain ⟨x, hx⟩ : ∃ x, (limbs a)[m]? = some x := ⟨_, List.getElem?_eq_getElem (by omega)⟩
      obtain ⟨y, hy⟩ : ∃ y, (limbs b)[m]? = some y := ⟨_, List.getElem?_eq_getElem (by omega)⟩
      by_cases hxy : x = y
      · subst hxy
        have hw : IntKind.i64.wrap ((m : Int) - 1) = (m : Int) - 1 := IntWalk.i64_in _ (by omega)
        simp [h0, h1, h5, hx, hy, hw, dvar]
        exact ⟨m, by omega, by rw [drop_get hx, drop_get hy, hd], rfl⟩
      · have hb : ((x : Int) != (y : Int)) = true := by simp; omega
        have hc : cmpI a b = cmpI x y := by
          have := cmpI_first wa wb hd hx hy hxy
          rwa [va, vb] at this
        simp [h0, h1, h5, hx, hy, hb, Tcmp_mu, Tcmp_u, sCompare_u, hc]
    · have : n = 0 := by omega
      subst this
      have e : a = b := by
        rw [List.drop_zero, List.drop_zero] at hd
        rw [← va, ← vb, hd]
      subst e
      simp [h5, cmpI_eq]
  · have hbn : (((limbs a).length : Int) != ((limbs b).length : Int)) = true := by simp; omega
    have hc : cmpI a b = cmpI (limbs a).length (limbs b).length := by
      by_cases h1 : (limbs a).length < (limbs b).length
      · rw [cmpI_lt h1, cmpI_lt (lt_of_len h1)]
      · have h2 : (limbs b).length < (limbs a).length := by omega
        rw [cmpI_gt h2, cmpI_gt (lt_of_len h2)]
    simp [lf152, hbn, Tcmp_mu, Tcmp_i, sCompare_i, hc]
end Go.Proofs.YtepfpgnjpkcgmaaGreat

/-
  nat: sums and differences.
-/
namespace Go.Proofs.YtepfpgnjpkcgmaaGreat
open Go Go.Abs Go.Limbs
variable {base : Prot}
set_option maxRecDepth 20000
attribute [local irreducible] vc
attribute [local simp] pureS touchV freezeL fuel shiftV u64
/-- A limb in an own array; an own array of limbs. -/
def au (n : Nat) : AVal := .p (.int .u64 n)
attribute [local simp] au
def rowE (ver : Nat) (l : List Nat) : Ent := ⟨1, ver, false, l.map au, 157⟩
theorem mapO_au (H : Heap) (n : Nat) : ∀ l : List Nat, mapO (resolveV H n) (l.map au) = some (l.map u64)
  | [] => rfl
  | x :: r => by simp [au, mapO, resolveV, mapO_au H n r]
theorem mapO_au_take (H : Heap) (n k : Nat) (l : List Nat) : mapO (resolveV H n) (List.take k (l.map au)) = some (List.take k (l.map u64)) := by rw [← List.map_take, mapO_au, List.map_take]
theorem touch_au (H : Heap) (n : Nat) : ∀ l : List Nat, (l.map au).flatMap (touchV H n) = []
  | [] => rfl
  | x :: r => by rw [List.map_cons, List.flatMap_cons, touch_au H n r]; cases n <;> simp [au, touchV]
theorem touch_au_take (H : Heap) (n k : Nat) (l : List Nat) : (List.take k (l.map au)).flatMap (touchV H n) = [] := by rw [← List.map_take, touch_au]
theorem add64_at : ∀ ps x, sAdd64 ps = some x → ExtOk Tryz.prog 190 ps x := by
  obtain ⟨fn, hfn⟩ : ∃ fn, Tryz.prog.funcs[190]? = some fn := ⟨_, rfl⟩
  refine add64_ext hfn ?_ ?_ ?_ ?_ <;> (cases hfn; kernel_rfl)
theorem sub64_at : ∀ ps x, sSub64 ps = some x → ExtOk Tryz.prog 200 ps x := by
  obtain ⟨fn, hfn⟩ : ∃ fn, Tryz.prog.funcs[200]? = some fn := ⟨_, rfl⟩
  refine sub64_ext hfn ?_ ?_ ?_ ?_ <;> (cases hfn; kernel_rfl)
def Tadd : Tab := ((Tab.none.with 184 (pureS sTrim)).ext 190 sAdd64).ext 200 sSub64
theorem Tadd_ok : TabOk Tryz.prog base Tadd := Tab.ext_ok (Tab.ext_ok (Tab.with_ok Tab.none_ok trim_ok) add64_at) sub64_at
theorem Tadd_mu (f : FuncId) (a : List AVal) (H : Heap) : Tadd.mu f a H = none := (rfl)
theorem Tadd_trim : Tadd.fn 184 = pureS sTrim := (rfl)
theorem Tadd_add : Tadd.ex 190 = sAdd64 := (rfl)
theorem Tadd_sub : Tadd.ex 200 = sSub64 := (rfl)
theorem plus_loop {a b : List Nat} {Q : LExit → AFr → Heap → Prop} {fr : AFr} {H : Heap} (hH : H = [rowE 0 (List.replicate (a.length + 1) 0)]) (wa : Wf a) (wb : Wf b) (hla : a.length ≤ 100000)
    (h1 : fr 1 = .p (.lst (b.map u64))) (h5 : fr 5 = .own 0 0 (a.length + 1) 0) (h6 : fr 6 = .p (.int .u64 0)) (h21 : fr 21 = .p (.lst (a.map u64)))
    (h22 : fr 22 = .p (.int .i64 a.length)) (h23 : fr 23 = .p (.int .i64 0)) (h0 : fr 0 = .p (.lst (a.map u64)))
    (hq : ∀ (fr' : AFr) (l : List Nat) (c : Nat), l.length = a.length + 1 → Wf l → c ≤ 1 → val (l.take a.length) + B ^ a.length * c = val a + val (b.take a.length) → fr' 0 = .p (.lst (a.map u64)) →
      fr' 5 = .own 0 0 (a.length + 1) 0 → fr' 6 = .p (.int .u64 c) → Q .normal fr' [rowE 0 l]) : vc Tadd lf180_B0 Q fr H := by
  subst hH
  simp only [lf180_B0, vc_block]
  refine loop_ind (fun fr H => ∃ (i : Nat) (l : List Nat) (c : Nat), i ≤ a.length ∧ l.length = a.length + 1 ∧ Wf l ∧ c ≤ 1 ∧ val (l.take i) + B ^ i * c = val (a.take i) + val (b.take i) ∧ H = [rowE 0 l] ∧
      fr 0 = .p (.lst (a.map u64)) ∧ fr 1 = .p (.lst (b.map u64)) ∧ fr 5 = .own 0 0 (a.length + 1) 0 ∧ fr 6 = .p (.int .u64 c) ∧ fr 21 = .p (.lst (a.map u64)) ∧ fr 22 = .p (.int .i64 a.length) ∧ fr 23 = .p (.int .i64 i))
    (fun fr _ => a.length - ivar (fr 23)) ⟨0, List.replicate (a.length + 1) 0, 0, by omega, by simp, Wf.zeros _, by omega, by simp [val_nil], rfl, h0, h1, h5, h6, h21, h22, h23⟩ ?_
  rintro fr H ⟨i, l, c, hi, hl, hwl, hc, hv, rfl, h0, h1, h5, h6, h21, h22, h23⟩
  by_cases h : i < a.length
  · obtain ⟨x, hx⟩ : ∃ x, a[i]? = some x := ⟨_, List.getElem?_eq_getElem h⟩
    have hxB := wa.get hx
    have hil : i < l.length := by omega
    have hlI : (i : Int) < (a.length : Int) + 1 := by omega
    obtain ⟨o, ho⟩ : ∃ o, l[i]? = some o := ⟨_, List.getElem?_eq_getElem hil⟩
    by_cases hb : i < b.length
    · obtain ⟨y, hy⟩ : ∃ y, b[i]? = some y := ⟨_, List.getElem?_eq_getElem hb⟩
      have hA := sAdd64_nat (x := x) (y := y) hc
      have gx := getE hx
      have gy := getE hy
      have go := getE ho
      simp [h0, h1, h5, h6, h21, h22, h23, h, hb, gx, gy, hA, hil, hlI, go, rowE, Tadd_add, wrap_succ (i := i) (by omega), ivar]
      refine ⟨⟨i + 1, by omega, l.set i (addD x y c), by simp [hl], hwl.set _ (addD_lt _ _ _), addC x y c, add_carry hxB (wb.get hy) hc, ?_, by rw [List.map_set]; rfl, rfl, by omega⟩, by omega⟩
      rw [val_take_set hil, val_take_succ hx, val_take_succ hy, Nat.pow_succ]
      exact add_step hv
    · have hA := sAdd64_nat (x := x) (y := 0) hc
      have hA' : sAdd64 [.int .u64 x, .int .u64 0, .int .u64 c] = some (.tup [.int .u64 (addD x 0 c), .int .u64 (addC x 0 c)]) := hA
      have gx := getE hx
      have go := getE ho
      simp [h0, h1, h5, h6, h21, h22, h23, h, hb, gx, hA', hil, hlI, go, rowE, Tadd_add, wrap_succ (i := i) (by omega), ivar]
      refine ⟨⟨i + 1, by omega, l.set i (addD x 0 c), by simp [hl], hwl.set _ (addD_lt _ _ _), addC x 0 c, add_carry hxB B_pos hc, ?_, by rw [List.map_set]; rfl, rfl, by omega⟩, by omega⟩
      rw [val_take_set hil, val_take_succ hx, take_over (List.getElem?_eq_none (by omega)), Nat.pow_succ]
      have := add_step (x := x) (y := 0) hv
      rw [Nat.mul_zero, Nat.add_zero] at this
      exact this
  · have hil : i = a.length := by omega
    subst hil
    rw [List.take_of_length_le (Nat.le_refl _)] at hv
    simp [h22, h23]
    exact hq _ l c hl hwl hc hv (by simp [h0]) (by simp [h5]) (by simp [h6])
theorem mul_cap (n : Nat) (h : n ≤ 1000000) : n * 8 ≤ 140737488355328 ∧ n ≤ maxLen := ⟨by omega, Nat.le_trans h (Nat.le_trans (by omega) maxLen_ge)⟩
theorem mul_capI (n : Nat) (h : n ≤ 1000000) : (n : Int) * 8 ≤ 140737488355328 ∧ (n : Int) ≤ maxLen := by
  have := mul_cap n h
  omega
theorem sum_capI (n : Nat) (h : n ≤ 1000000) : ((n : Int) + 1) * 8 ≤ 140737488355328 ∧ (n : Int) + 1 ≤ maxLen ∧ 0 ≤ (n : Int) + 1 := by
  have h1 := maxLen_ge
  omega
def sPlus : List PVal → Option PVal
  | [.lst xs, .lst ys] => match decN xs, decN ys with | some a, some b => some (numP (a + b)) | _, _ => none
  | _ => none
theorem sPlus_num {a b : Nat} (ha : len a ≤ 100000) (hb : len b ≤ 100000) : sPlus [.lst ((limbs a).map u64), .lst ((limbs b).map u64)] = some (.lst ((limbs (a + b)).map u64)) := by
  simp only [sPlus, decN_num ha, decN_num hb]; rfl
theorem plus_end {a l : List Nat} {c n : Nat} (hl : l.length = a.length + 1) (hw : Wf l) (hc : c ≤ 1) (hle : a.length ≤ 100000) (hv : val (l.take a.length) + B ^ a.length * c = n) :
    ∃ L, (List.map au l).set a.length (AVal.p (.int .u64 c)) = List.map au L ∧ L.length = a.length + 1 ∧ List.take (a.length + 1) (L.map u64) = L.map u64 ∧ sTrim [.lst (L.map u64)] = some (numP n) := by
  refine ⟨l.set a.length c, by rw [List.map_set]; rfl, by simp [hl], List.take_of_length_le (by simp; omega), ?_⟩
  have h1 := sTrim_map (hw.set a.length (show c < B by have := B_one; omega)) (by simp; omega)
  have h2 := val_take_set (l := l) (i := a.length) (by omega) c
  rw [List.take_of_length_le (by simp; omega)] at h2
  rw [h2, hv] at h1
  exact h1
theorem plus_ok : FnOk Tryz.prog base 180 (pureS sPlus) := by
  refine pure_of_vc hmix Tadd_ok globNone low180 fun args z hs hf => ?_
  unfold sPlus at hs
  split at hs
  case h_2 => cases hs
  rename_i xs ys
  split at hs
  case h_2 => cases hs
  rename_i a b ha hb
  cases hs
  obtain ⟨rfl, hla⟩ := decN_some ha
  obtain ⟨rfl, hlb⟩ := decN_some hb
  refine ⟨by simp [lf180], ?_⟩
  have wa := wf_limbs a
  have wb := wf_limbs b
  have la : len a = (limbs a).length := rfl
  have lb : len b = (limbs b).length := rfl
  by_cases h : (limbs a).length < (limbs b).length
  · have hcap := sum_capI (limbs b).length (by omega)
    have hw := wrap_succ (i := (limbs b).length) (by omega)
    simp [lf180, h, hcap, hw]
    refine plus_loop (a := limbs b) (b := limbs a) (by simp [rowE]) wb wa (by omega) (by simp) (by simp) (by simp) (by simp) (by simp) (by simp) (by simp) fun fr' l c hl hwl hc hv h0 h5 h6 => ?_
    rw [List.take_of_length_le (by omega : (limbs a).length ≤ (limbs b).length), val_limbs, val_limbs] at hv
    obtain ⟨o, ho⟩ : ∃ o, l[(limbs b).length]? = some o := ⟨_, List.getElem?_eq_getElem (by omega)⟩
    obtain ⟨L, hL, hLl, hT, ht⟩ := plus_end (a := limbs b) (n := a + b) hl hwl hc (by omega) (by omega)
    have hlt : ((limbs b).length : Int) < (limbs b).length + 1 := by omega
    simp [h0, h5, h6, rowE, ho, hlt, hL, hLl, hT, ht, mapO_au_take, mapO_au, touch_au, touch_au_take, Tadd_mu, Tadd_trim]
  · have hcap := sum_capI (limbs a).length (by omega)
    have hw := wrap_succ (i := (limbs a).length) (by omega)
    simp [lf180, h, hcap, hw]
    refine plus_loop (a := limbs a) (b := limbs b) (by simp [rowE]) wa wb (by omega) (by simp) (by simp) (by simp) (by simp) (by simp) (by simp) (by simp) fun fr' l c hl hwl hc hv h0 h5 h6 => ?_
    rw [List.take_of_length_le (by omega : (limbs b).length ≤ (limbs a).length), val_limbs, val_limbs] at hv
    obtain ⟨o, ho⟩ : ∃ o, l[(limbs a).length]? = some o := ⟨_, List.getElem?_eq_getElem (by omega)⟩
    obtain ⟨L, hL, hLl, hT, ht⟩ := plus_end (a := limbs a) (n := a + b) hl hwl hc (by omega) (by omega)
    have hlt : ((limbs a).length : Int) < (limbs a).length + 1 := by omega
    simp [h0, h5, h6, rowE, ho, hlt, hL, hLl, hT, ht, mapO_au_take, mapO_au, touch_au, touch_au_take, Tadd_mu, Tadd_trim]
end Go.Proofs.YtepfpgnjpkcgmaaGreat

/-
  nat: differences.
-/
namespace Go.Proofs.YtepfpgnjpkcgmaaGreat
open Go Go.Abs Go.Limbs
variable {base : Prot}
set_option maxRecDepth 20000
attribute [local irreducible] vc
attribute [local simp] pureS touchV freezeL fuel shiftV u64 au
theorem minus_loop {a b : List Nat} {Q : LExit → AFr → Heap → Prop} {fr : AFr} {H : Heap} (hH : H = [rowE 0 (List.replicate a.length 0)]) (wa : Wf a) (wb : Wf b) (hla : a.length ≤ 100000)
    (h1 : fr 1 = .p (.lst (b.map u64))) (h5 : fr 5 = .own 0 0 a.length 0) (h6 : fr 6 = .p (.int .u64 0)) (h13 : fr 13 = .p (.lst (a.map u64)))
    (h14 : fr 14 = .p (.int .i64 a.length)) (h15 : fr 15 = .p (.int .i64 0))
    (hq : ∀ (fr' : AFr) (l : List Nat) (c : Nat), l.length = a.length → Wf l → c ≤ 1 → val l + val (b.take a.length) = val a + B ^ a.length * c →
      fr' 5 = .own 0 0 a.length 0 → Q .normal fr' [rowE 0 l]) : vc Tadd lf181_B0 Q fr H := by
  subst hH
  simp only [lf181_B0, vc_block]
  refine loop_ind (fun fr H => ∃ (i : Nat) (l : List Nat) (c : Nat), i ≤ a.length ∧ l.length = a.length ∧ Wf l ∧ c ≤ 1 ∧ val (l.take i) + val (b.take i) = val (a.take i) + B ^ i * c ∧ H = [rowE 0 l] ∧
      fr 1 = .p (.lst (b.map u64)) ∧ fr 5 = .own 0 0 a.length 0 ∧ fr 6 = .p (.int .u64 c) ∧ fr 13 = .p (.lst (a.map u64)) ∧ fr 14 = .p (.int .i64 a.length) ∧ fr 15 = .p (.int .i64 i))
    (fun fr _ => a.length - ivar (fr 15)) ⟨0, List.replicate a.length 0, 0, by omega, by simp, Wf.zeros _, by omega, by simp [val_nil], rfl, h1, h5, h6, h13, h14, h15⟩ ?_
  rintro fr H ⟨i, l, c, hi, hl, hwl, hc, hv, rfl, h1, h5, h6, h13, h14, h15⟩
  by_cases h : i < a.length
  · obtain ⟨x, hx⟩ : ∃ x, a[i]? = some x := ⟨_, List.getElem?_eq_getElem h⟩
    have hxB := wa.get hx
    have hil : i < l.length := by omega
    obtain ⟨o, ho⟩ : ∃ o, l[i]? = some o := ⟨_, List.getElem?_eq_getElem hil⟩
    have gx := getE hx
    have go := getE ho
    by_cases hb : i < b.length
    · obtain ⟨y, hy⟩ : ∃ y, b[i]? = some y := ⟨_, List.getElem?_eq_getElem hb⟩
      have hA := sSub64_nat (x := x) (y := y) hc
      have gy := getE hy
      simp [h1, h5, h6, h13, h14, h15, h, hb, gx, gy, hA, hil, go, rowE, Tadd_sub, wrap_succ (i := i) (by omega), ivar]
      refine ⟨⟨i + 1, by omega, l.set i (subD x y c), by simp [hl], hwl.set _ (subD_lt _ _ _), subC x y c, subC_le _ _ _, ?_, by rw [List.map_set]; rfl, rfl, by omega⟩, by omega⟩
      rw [val_take_set hil, val_take_succ hx, val_take_succ hy, Nat.pow_succ]
      exact sub_step hxB (wb.get hy) hc hv
    · have hA := sSub64_nat (x := x) (y := 0) hc
      have hA' : sSub64 [.int .u64 x, .int .u64 0, .int .u64 c] = some (.tup [.int .u64 (subD x 0 c), .int .u64 (subC x 0 c)]) := hA
      simp [h1, h5, h6, h13, h14, h15, h, hb, gx, hA', hil, go, rowE, Tadd_sub, wrap_succ (i := i) (by omega), ivar]
      refine ⟨⟨i + 1, by omega, l.set i (subD x 0 c), by simp [hl], hwl.set _ (subD_lt _ _ _), subC x 0 c, subC_le _ _ _, ?_, by rw [List.map_set]; rfl, rfl, by omega⟩, by omega⟩
      rw [val_take_set hil, val_take_succ hx, take_over (List.getElem?_eq_none (by omega)), Nat.pow_succ]
      have := sub_step hxB B_pos hc hv (y := 0)
      rw [Nat.mul_zero, Nat.add_zero] at this
      exact this
  · have hil : i = a.length := by omega
    subst hil
    rw [List.take_of_length_le (Nat.le_refl _), List.take_of_length_le (by omega : l.length ≤ a.length)] at hv
    simp [h14, h15]
    exact hq _ l c hl hwl hc hv (by simp [h5])
def sMinus : List PVal → Option PVal
  | [.lst xs, .lst ys] => match decN xs, decN ys with | some a, some b => if b ≤ a then some (numP (a - b)) else none | _, _ => none
  | _ => none
theorem sMinus_num {a b : Nat} (ha : len a ≤ 100000) (hb : len b ≤ 100000) (h : b ≤ a) : sMinus [.lst ((limbs a).map u64), .lst ((limbs b).map u64)] = some (.lst ((limbs (a - b)).map u64)) := by
  simp only [sMinus, decN_num ha, decN_num hb, if_pos h]; rfl
/-- An own row that is handed to trim. -/
theorem row_end {l : List Nat} {n k : Nat} (hl : l.length = k) (hw : Wf l) (hle : k ≤ 1000000) (hv : val l = n) : List.take k (l.map u64) = l.map u64 ∧ sTrim [.lst (l.map u64)] = some (numP n) := by
  refine ⟨List.take_of_length_le (by simp; omega), ?_⟩
  have := sTrim_map hw (by omega)
  rw [hv] at this
  exact this
theorem minus_ok : FnOk Tryz.prog base 181 (pureS sMinus) := by
  refine pure_of_vc hmix Tadd_ok globNone low181 fun args z hs hf => ?_
  unfold sMinus at hs
  split at hs
  case h_2 => cases hs
  rename_i xs ys
  split at hs
  case h_2 => cases hs
  rename_i a b ha hb
  split at hs
  case isFalse => cases hs
  rename_i hba
  cases hs
  obtain ⟨rfl, hla⟩ := decN_some ha
  obtain ⟨rfl, hlb⟩ := decN_some hb
  refine ⟨by simp [lf181], ?_⟩
  have la : len a = (limbs a).length := rfl
  have lb : len b = (limbs b).length := rfl
  have hcap := mul_capI (limbs a).length (by omega)
  simp [lf181, hcap]
  refine minus_loop (a := limbs a) (b := limbs b) (by simp [rowE]) (wf_limbs a) (wf_limbs b) (by omega) (by simp) (by simp) (by simp) (by simp) (by simp) (by simp) fun fr' l c hl hwl hc hv h5 => ?_
  have hlen := len_mono hba
  rw [List.take_of_length_le (by omega : (limbs b).length ≤ (limbs a).length), val_limbs, val_limbs] at hv
  have hvl := val_lt hwl
  rw [hl] at hvl
  have hc0 : c = 0 := by
    rcases Nat.eq_zero_or_pos c with h | h
    · exact h
    · have : c = 1 := by omega
      subst this
      omega
  subst hc0
  obtain ⟨hT, ht⟩ := row_end (n := a - b) hl hwl (by omega) (by omega)
  simp [h5, rowE, hl, hT, ht, mapO_au_take, mapO_au, touch_au, touch_au_take, Tadd_mu, Tadd_trim]
end Go.Proofs.YtepfpgnjpkcgmaaGreat

/-
  math/bits: Mul64.
-/
namespace Go.Proofs.YtepfpgnjpkcgmaaGreat
open Go Go.Abs Go.Limbs
variable {base : Prot}
set_option maxRecDepth 20000
attribute [local irreducible] vc
attribute [local simp] pureS touchV freezeL fuel shiftV u64 au
def mulH (x y : Nat) : Nat := x * y / B
def mulL (x y : Nat) : Nat := x * y % B
def sMul64 : List PVal → Option PVal
  | [.int .u64 x, .int .u64 y] => if 0 ≤ x ∧ x.toNat < B ∧ 0 ≤ y ∧ y.toNat < B then some (.tup [.int .u64 (mulH x.toNat y.toNat), .int .u64 (mulL x.toNat y.toNat)]) else none
  | _ => none
theorem sMul64_nat {x y : Nat} (hx : x < B) (hy : y < B) : sMul64 [.int .u64 x, .int .u64 y] = some (.tup [.int .u64 (mulH x y), .int .u64 (mulL x y)]) := by
  have : (0 : Int) ≤ x ∧ (x : Int).toNat < B ∧ (0 : Int) ≤ y ∧ (y : Int).toNat < B := by simp [hx, hy]
  show (if (0 : Int) ≤ x ∧ (x : Int).toNat < B ∧ (0 : Int) ≤ y ∧ (y : Int).toNat < B then _ else none) = _
  rw [if_pos this]
  simp
def lo32 (x : Nat) : Nat := x % 4294967296
def hi32 (x : Nat) : Nat := x / 4294967296
theorem low_mask {x : Nat} (hx : x < B) : IntKind.u64.wrap ((BitVec.ofNat IntKind.u64.bits x &&& 4294967295#IntKind.u64.bits).toNat : Int) = (lo32 x : Int) := by
  have h := and_wrap (a := x) (b := 4294967295) hx (by decide)
  rw [show (4294967295 : Nat) = 2 ^ 32 - 1 from rfl, Nat.and_two_pow_sub_one_eq_mod, bv_ofInt, bv_ofInt] at h
  exact h
/-- A union of bits, as the evaluation leaves it. -/
theorem or_bits {x y : Nat} (hx : x < B) (hy : y < B) : IntKind.u64.wrap ((BitVec.ofNat IntKind.u64.bits x ||| BitVec.ofNat IntKind.u64.bits y).toNat : Int) = ((x ||| y : Nat) : Int) := by
  have h := or_wrap hx hy
  rw [bv_ofInt, bv_ofInt] at h
  exact h
theorem shr_word {x s : Nat} (h : s ≤ 64) : shiftI .shr .u64 x s = some (.int .u64 (x / 2 ^ s : Nat)) := by
  have h1 : ¬ (s : Int) < 0 := by omega
  have h2 : min s IntKind.u64.bits = s := Nat.min_eq_left h
  simp only [shiftI, if_neg h1, Int.toNat_natCast, h2, fdiv_pow]
theorem shr32 (x : Nat) : shiftI .shr .u64 x 32 = some (.int .u64 (hi32 x)) := shr_word (x := x) (s := 32) (by omega)
theorem shl_word {x s : Nat} (h : s ≤ 64) : shiftI .shl .u64 x s = some (.int .u64 (x * 2 ^ s % B : Nat)) := by
  have h1 : ¬ (s : Int) < 0 := by omega
  have h2 : min s IntKind.u64.bits = s := Nat.min_eq_left h
  simp only [shiftI, if_neg h1, Int.toNat_natCast, h2]
  have h3 : (x : Int) * 2 ^ s = ((x * 2 ^ s : Nat) : Int) := by simp
  rw [h3, wrap_um]
theorem mul64_ok : FnOk Tryz.prog base 189 (pureS sMul64) := by
  refine pure_of_vc hmix Tab.none_ok globNone low189 fun args z hs hf => ?_
  unfold sMul64 at hs
  split at hs
  case h_2 => cases hs
  rename_i x y
  split at hs
  case isFalse => cases hs
  rename_i hc
  cases hs
  obtain ⟨x, rfl⟩ := Int.eq_ofNat_of_zero_le hc.1
  obtain ⟨y, rfl⟩ := Int.eq_ofNat_of_zero_le hc.2.2.1
  simp only [Int.toNat_natCast] at hc ⊢
  obtain ⟨-, hx, -, hy⟩ := hc
  refine ⟨by simp [lf189], ?_⟩
  obtain ⟨q1, q2, q3, q4⟩ := Lib.mul64_hi x y hx hy
  have ml : IntKind.u64.wrap ((x : Int) * y) = (mulL x y : Int) := wrap_u_mul x y
  have mx := low_mask hx
  have my := low_mask hy
  have hb : hi32 x * hi32 y ≤ 18446744065119617025 := Lib.half_mul_le (by unfold hi32; rw [B_lit] at hx; omega) (by unfold hi32; rw [B_lit] at hy; omega)
  have hb2 : hi32 x * lo32 y ≤ 18446744065119617025 := Lib.half_mul_le (by unfold hi32; rw [B_lit] at hx; omega) (by unfold lo32; omega)
  have hb3 : lo32 x * hi32 y ≤ 18446744065119617025 := Lib.half_mul_le (by unfold lo32; omega) (by unfold hi32; rw [B_lit] at hy; omega)
  have hlt : mulH x y < B := by unfold mulH; rw [Nat.div_lt_iff_lt_mul B_pos]; exact Nat.mul_lt_mul'' hx hy
  rw [show x * y / 18446744073709551616 = mulH x y from rfl] at q4
  rw [show x % 4294967296 = lo32 x from rfl, show y % 4294967296 = lo32 y from rfl, show x / 4294967296 = hi32 x from rfl, show y / 4294967296 = hi32 y from rfl] at *
  obtain ⟨w0, hw0⟩ : ∃ w, w = lo32 x * lo32 y := ⟨_, rfl⟩
  obtain ⟨p1, hp1⟩ : ∃ w, w = hi32 x * lo32 y := ⟨_, rfl⟩
  obtain ⟨p2, hp2⟩ : ∃ w, w = lo32 x * hi32 y := ⟨_, rfl⟩
  obtain ⟨p3, hp3⟩ : ∃ w, w = hi32 x * hi32 y := ⟨_, rfl⟩
  rw [← hw0, ← hp1, ← hp2, ← hp3] at q4
  rw [← hw0] at q1
  rw [← hw0, ← hp1] at q2
  rw [← hw0, ← hp1, ← hp2] at q3
  rw [← hp3] at hb
  rw [← hp1] at hb2
  rw [← hp2] at hb3
  rw [show w0 / 4294967296 = hi32 w0 from rfl] at *
  obtain ⟨t, ht⟩ : ∃ t, t = p1 + hi32 w0 := ⟨_, rfl⟩
  rw [← ht] at q4 q2 q3
  rw [show t % 4294967296 = lo32 t from rfl] at q4 q3
  rw [show t / 4294967296 = hi32 t from rfl] at q4
  obtain ⟨w1, hw1⟩ : ∃ w, w = lo32 t + p2 := ⟨_, rfl⟩
  rw [← hw1] at q4 q3
  rw [show w1 / 4294967296 = hi32 w1 from rfl] at q4
  obtain ⟨s1, hs1⟩ : ∃ w, w = p3 + hi32 t := ⟨_, rfl⟩
  rw [← hs1] at q4
  have e : ∀ {m n k : Nat}, k = m * n → k < B → IntKind.u64.wrap ((m : Int) * n) = (k : Int) := fun {m n k} h h2 => by rw [wrap_u_mul, ← h, Nat.mod_eq_of_lt h2]
  have e2 : ∀ {m n k : Nat}, k = m + n → k < B → IntKind.u64.wrap ((m : Int) + n) = (k : Int) := fun {m n k} h h2 => by rw [wrap_u_mod, ← h, Nat.mod_eq_of_lt h2]
  have g0 := e hw0 q1
  have g1 := e hp1 (by rw [B_lit]; omega)
  have g2 := e2 ht q2
  have g3 := low_mask (x := t) q2
  have g4 := e hp2 (by rw [B_lit]; omega)
  have g5 := e2 hw1 q3
  have g6 := e hp3 (by rw [B_lit]; omega)
  have g7 := e2 hs1 (by omega)
  have g8 := e2 q4.symm hlt
  simp [-BitVec.toNat_and, lf189, shr32, ml, mx, my, g0, g1, g2, g3, g4, g5, g6, g7, g8]
end Go.Proofs.YtepfpgnjpkcgmaaGreat

/-
  nat: row, which adds a multiple of a number to a part of an own row of limbs.
-/
namespace Go.Proofs.YtepfpgnjpkcgmaaGreat
open Go Go.Abs Go.Limbs
variable {base : Prot}
set_option maxRecDepth 20000
attribute [local irreducible] vc
attribute [local simp] pureS touchV freezeL fuel shiftV u64 au
theorem set_same {α : Type} {l : List α} {k : Nat} {x : α} (h : l[k]? = some x) : l.set k x = l := by
  refine List.ext_getElem? fun i => ?_
  rw [List.getElem?_set]
  split
  · rename_i e
    subst e
    have := (List.getElem?_eq_some_iff.1 h).1
    simp only [this, if_true, h]
  · rfl
/-! ### Parts of own rows -/
def join (p s q : List Nat) : List Nat := p ++ s ++ q
theorem join_get {p s q : List Nat} {i : Nat} (h : i < s.length) : (join p s q)[p.length + i]? = s[i]? := by
  unfold join
  rw [List.append_assoc, List.getElem?_append_right (by omega), List.getElem?_append_left (by omega)]
  congr 1
  omega
theorem join_set {p s q : List Nat} {i : Nat} (h : i < s.length) (x : Nat) : ((join p s q).map au).set (p.length + i) (AVal.p (.int .u64 x)) = (join p (s.set i x) q).map au := by
  unfold join
  rw [show AVal.p (.int .u64 x) = au x from rfl, ← List.map_set, List.append_assoc, List.append_assoc, List.set_append_right _ _ (by omega), List.set_append_left _ _ (by omega)]
  congr 5
  omega
theorem join_split (l : List Nat) {off n : Nat} (h : off + n ≤ l.length) : l = join (l.take off) ((l.drop off).take n) (l.drop (off + n)) := by
  unfold join
  rw [List.append_assoc, ← List.drop_drop, List.take_append_drop, List.take_append_drop]
theorem join_length (p s q : List Nat) : (join p s q).length = p.length + s.length + q.length := by unfold join; simp; omega
def decA : List AVal → Option (List Nat)
  | [] => some []
  | .p (.int .u64 z) :: r => if 0 ≤ z ∧ z.toNat < B then (match decA r with | some l => some (z.toNat :: l) | none => none) else none
  | _ :: _ => none
theorem decA_map : ∀ {l : List Nat}, Wf l → decA (l.map au) = some l
  | [], _ => rfl
  | x :: r, h => by
    have hx := h.head
    have : (0 : Int) ≤ (x : Int) ∧ (x : Int).toNat < B := by simpa using hx
    simp only [List.map_cons, au, decA, if_pos this]
    rw [decA_map h.tail]
    simp
theorem decA_some : ∀ {es : List AVal} {l : List Nat}, decA es = some l → es = l.map au ∧ Wf l
  | [], l, h => by simp [decA] at h; subst h; exact ⟨rfl, Wf.nil⟩
  | x :: r, l, h => by
    unfold decA at h
    split at h
    · rename_i e; cases e
    · rename_i z r' e
      cases e
      split at h
      · rename_i hz
        cases hd : decA r with
        | none => rw [hd] at h; cases h
        | some l' =>
          rw [hd] at h
          cases h
          obtain ⟨h1, h2⟩ := decA_some hd
          obtain ⟨m, rfl⟩ := Int.eq_ofNat_of_zero_le hz.1
          exact ⟨by rw [h1]; simp [au], Wf.cons hz.2 h2⟩
      · cases h
    · cases h
/-- The limbs of an own row, of which a part is in hand. -/
def rowO (H : Heap) (k off n ver : Nat) : Option (List Nat) := match H[k]? with
  | some e => if e.size = 1 ∧ e.ver = ver ∧ e.froz = false ∧ e.ty = 157 then (match decA e.elems with | some l => if off + n ≤ l.length ∧ l.length ≤ 1000000 then some l else none | none => none) else none
  | none => none
theorem rowO_some {H : Heap} {k off n ver : Nat} {l : List Nat} (h : rowO H k off n ver = some l) : H[k]? = some (rowE ver l) ∧ Wf l ∧ off + n ≤ l.length ∧ l.length ≤ 1000000 := by
  unfold rowO at h
  split at h
  case h_2 => cases h
  rename_i e he
  split at h
  case isFalse => cases h
  rename_i hc
  split at h
  case h_2 => cases h
  rename_i l' hl
  split at h
  case isFalse => cases h
  rename_i hle
  cases h
  obtain ⟨h1, h2⟩ := decA_some hl
  refine ⟨?_, h2, hle.1, hle.2⟩
  obtain ⟨a, b, c, d, f⟩ := e
  simp only at hc h1
  obtain ⟨rfl, rfl, rfl, rfl⟩ := hc
  rw [he, h1]; rfl
theorem rowO_at {H : Heap} {k off n ver : Nat} {l : List Nat} (h : H[k]? = some (rowE ver l)) (hw : Wf l) (hl : off + n ≤ l.length) (hm : l.length ≤ 1000000) : rowO H k off n ver = some l := by
  unfold rowO
  rw [h]
  simp only [rowE, decA_map hw, hl, hm, and_self, if_true]
/-- A part replaced. -/
def part (l : List Nat) (off n v : Nat) : List Nat := join (l.take off) (fix n v) (l.drop (off + n))
theorem part_wf {l : List Nat} (h : Wf l) (off n v : Nat) : Wf (part l off n v) := ((h.take off).append (wf_fix n v)).append (h.drop _)
theorem part_length {l : List Nat} {off n : Nat} (h : off + n ≤ l.length) (v : Nat) : (part l off n v).length = l.length := by
  unfold part; rw [join_length, length_fix]; simp; omega
def seg (l : List Nat) (off n : Nat) : Nat := val ((l.drop off).take n)
theorem below_row {n : Nat} {H : Heap} (h : BelowH n H) (k ver : Nat) (l : List Nat) : BelowH n (H.set k (rowE ver l)) := by
  intro e he x hx y hy
  rcases List.mem_or_eq_of_mem_set he with h1 | h1
  · exact h e h1 x hx y hy
  · subst h1
    simp only [rowE, List.mem_map] at hx
    obtain ⟨m, _, rfl⟩ := hx
    simp [au, AVal.cells, PVal.cells] at hy
    subst hy
    exact .p _
def rowM : List AVal → Heap → Option (AVal × Heap)
  | [.own k off n ver, .p (.lst xs), .p (.int .u64 z)], H => match rowO H k off n ver, decN xs with
    | some l, some a => if 0 ≤ z ∧ z.toNat < B ∧ n = len a + 1 then some (.p (.tup []), H.set k (rowE ver (part l off n (seg l off n + a * z.toNat)))) else none
    | _, _ => none
  | _, _ => none
theorem rowM_at {H : Heap} {k off n ver z a : Nat} {l : List Nat} (h : H[k]? = some (rowE ver l)) (hw : Wf l) (hl : off + n ≤ l.length) (hm : l.length ≤ 1000000) (ha : len a ≤ 100000) (hz : z < B) (hn : n = len a + 1) :
    rowM [.own k off n ver, .p (.lst ((limbs a).map u64)), .p (.int .u64 z)] H = some (.p (.tup []), H.set k (rowE ver (part l off n (seg l off n + a * z)))) := by
  simp only [rowM, rowO_at h hw hl hm, decN_num ha]
  have : (0 : Int) ≤ z ∧ (z : Int).toNat < B ∧ n = len a + 1 := ⟨by omega, by simpa using hz, hn⟩
  rw [if_pos this]
  simp
def Trow : Tab := Tadd.with 189 (pureS sMul64)
theorem Trow_ok : TabOk Tryz.prog base Trow := Tab.with_ok Tadd_ok mul64_ok
theorem Trow_mu (f : FuncId) (a : List AVal) (H : Heap) : Trow.mu f a H = none := (rfl)
theorem Trow_mul : Trow.fn 189 = pureS sMul64 := (rfl)
theorem Trow_add : Trow.ex 190 = sAdd64 := (rfl)
theorem Trow_sub : Trow.ex 200 = sSub64 := (rfl)
theorem macH (x z c o : Nat) : mulH x z + addC (mulL x z) c 0 + addC o (addD (mulL x z) c 0) 0 = (x * z + c + o) / B := by
  unfold mulH mulL addC addD
  simp only [Nat.add_zero]
  exact mac_high
theorem macL (x z c o : Nat) : addD o (addD (mulL x z) c 0) 0 = (x * z + c + o) % B := by
  unfold mulL addD
  simp only [Nat.add_zero]
  exact mac_low
theorem wrap_mac {x z c o : Nat} (hx : x < B) (hz : z < B) (hc : c < B) (ho : o < B) :
    IntKind.u64.wrap (IntKind.u64.wrap ((mulH x z : Int) + addC (mulL x z) c 0) + addC o (addD (mulL x z) c 0) 0) = (((x * z + c + o) / B : Nat) : Int) := by
  have h1 := macH x z c o
  have h2 := mac_div_lt hx hz hc ho
  rw [wrap_u_add (by omega), wrap_u_add (by omega), h1]
theorem row_ok : MuOk Tryz.prog base 183 rowM := by
  refine own_of_vc' hmix Trow_ok globNone low183 fun args H r H' hs hf hbel => ?_
  unfold rowM at hs
  split at hs
  case h_2 => cases hs
  rename_i k off n ver xs z
  split at hs
  case h_2 => cases hs
  rename_i l a hl ha
  split at hs
  case isFalse => cases hs
  rename_i hz
  cases hs
  obtain ⟨hk, hw, hoff, hmax⟩ := rowO_some hl
  obtain ⟨rfl, hla⟩ := decN_some ha
  obtain ⟨z, rfl⟩ := Int.eq_ofNat_of_zero_le hz.1
  simp only [Int.toNat_natCast] at hz ⊢
  obtain ⟨-, hzB, hn⟩ := hz
  have hkl : k < H.length := (List.getElem?_eq_some_iff.1 hk).1
  refine ⟨by simp [lf183], by simp, below_row hbel _ _ _, .p _, ?_⟩
  have la : len a = (limbs a).length := rfl
  have wa := wf_limbs a
  obtain ⟨pre, hpre⟩ : ∃ p, p = l.take off := ⟨_, rfl⟩
  obtain ⟨post, hpost⟩ : ∃ p, p = l.drop (off + n) := ⟨_, rfl⟩
  obtain ⟨s0, hs0⟩ : ∃ p, p = (l.drop off).take n := ⟨_, rfl⟩
  have hs0l : s0.length = n := by rw [hs0]; simp; omega
  have hprel : pre.length = off := by rw [hpre]; simp; omega
  have hs0w : Wf s0 := by rw [hs0]; exact (hw.drop _).take _
  have hjoin : l = join pre s0 post := by rw [hpre, hs0, hpost]; exact join_split l hoff
  have hseg : seg l off n = val s0 := by rw [hs0]; rfl
  have hH0 : H = H.set k (rowE ver (join pre s0 post)) := by rw [← hjoin]; exact (set_same hk).symm
  rw [hseg]
  unfold part
  rw [← hpre, ← hpost]
  simp [lf183]
  simp only [lf183_B0, vc_block]
  refine loop_ind (fun fr H1 => ∃ (i : Nat) (s : List Nat) (c : Nat), i ≤ len a ∧ s.length = n ∧ Wf s ∧ c < B ∧ val (s.take i) + B ^ i * c = val (s0.take i) + val ((limbs a).take i) * z ∧ s.drop i = s0.drop i ∧ H1 = H.set k (rowE ver (join pre s post)) ∧
      fr 0 = .own k off n ver ∧ fr 1 = .p (.lst ((limbs a).map u64)) ∧ fr 2 = .p (.int .u64 z) ∧ fr 6 = .p (.int .u64 c) ∧ fr 12 = .p (.lst ((limbs a).map u64)) ∧ fr 13 = .p (.int .i64 (len a)) ∧ fr 14 = .p (.int .i64 i))
    (fun fr _ => len a - ivar (fr 14)) ⟨0, s0, 0, by omega, hs0l, hs0w, B_pos, by simp [val_nil], rfl, hH0, by simp, by simp, by simp, by simp, by simp, by simp [la], by simp⟩ ?_
  rintro fr H1 ⟨i, s, c, hi, hsl, hsw, hc, hv, hdr, rfl, h0, h1, h2, h6, h12, h13, h14⟩
  by_cases h : i < len a
  · obtain ⟨x, hx⟩ : ∃ x, (limbs a)[i]? = some x := ⟨_, List.getElem?_eq_getElem (by omega)⟩
    have hxB := wa.get hx
    have his : i < s.length := by omega
    have hin : i < n := by omega
    obtain ⟨o, ho⟩ : ∃ o, s[i]? = some o := ⟨_, List.getElem?_eq_getElem his⟩
    have hoB := hsw.get ho
    have hMul := sMul64_nat hxB hzB
    have hA1 := sAdd64_zero (x := mulL x z) (y := c)
    have hA2 := sAdd64_zero (x := o) (y := addD (mulL x z) c 0)
    have hjg := join_get (p := pre) (q := post) his
    rw [ho, hprel] at hjg
    have hjs := join_set (p := pre) (q := post) his (addD o (addD (mulL x z) c 0) 0)
    rw [hprel] at hjs
    obtain ⟨W, hW⟩ : ∃ W, W = join pre s post := ⟨_, rfl⟩
    rw [← hW] at hjg hjs
    simp [h0, h1, h2, h6, h12, h13, h14, h, hx, hMul, hA1, hA2, hin, hkl, ← hW, hjg, rowE, Trow_mu, Trow_mul, Trow_add, wrap_succ (i := i) (by omega), ivar]
    refine ⟨⟨i + 1, by omega, s.set i (addD o (addD (mulL x z) c 0) 0), by simp [hsl], hsw.set _ (addD_lt _ _ _), (x * z + c + o) / B, mac_div_lt hxB hzB hc hoB, ?_, ?_, ?_, wrap_mac hxB hzB hc hoB, by omega⟩, by omega⟩
    · have ho' : s0[i]? = some o := by
        rw [drop_get ho] at hdr
        have := congrArg List.head? hdr
        rw [List.head?_drop] at this
        simpa using this.symm
      rw [val_take_set his, val_take_succ hx, val_take_succ ho', macL, Nat.pow_succ]
      exact mac_step hv
    · rw [List.drop_set_of_lt (by omega)]
      have := congrArg (List.drop 1) hdr
      rw [List.drop_drop, List.drop_drop] at this
      exact this
    · rw [hjs]
  · have hil : i = len a := by omega
    subst hil
    rw [List.take_of_length_le (show (limbs a).length ≤ len a by omega), val_limbs] at hv
    have his : len a < s.length := by omega
    obtain ⟨o, ho⟩ : ∃ o, s[len a]? = some o := ⟨_, List.getElem?_eq_getElem his⟩
    have hjg := join_get (p := pre) (q := post) his
    rw [ho, hprel] at hjg
    have hjs := join_set (p := pre) (q := post) his ((o + c) % B)
    rw [hprel] at hjs
    have hfin : s.set (len a) ((o + c) % B) = fix n (val s0 + a * z) := by
      have ho' : s0[len a]? = some o := by
        rw [drop_get ho] at hdr
        have := congrArg List.head? hdr
        rw [List.head?_drop] at this
        simpa using this.symm
      have e1 : val s0 = val (s0.take (len a)) + B ^ len a * o := by
        rw [← val_take_succ ho', List.take_of_length_le (by omega)]
      have e2 := val_take_set his ((o + c) % B)
      rw [List.take_of_length_le (by simp; omega)] at e2
      refine val_inj (hsw.set _ (Nat.mod_lt _ B_pos)) (wf_fix _ _) (by simp [length_fix, hsl]) ?_
      rw [val_fix, e2, e1, hn, Nat.pow_succ, show val (s0.take (len a)) + B ^ len a * o + a * z = val (s.take (len a)) + B ^ len a * (o + c) by rw [Nat.mul_add]; omega, top_mod (val_take_lt hsw _)]
    rw [hfin] at hjs
    obtain ⟨W, hW⟩ : ∃ W, W = join pre s post := ⟨_, rfl⟩
    rw [← hW] at hjg hjs
    have hwr := wrap_u_mod o c
    obtain ⟨tp, htp⟩ : ∃ t, t = (o + c) % B := ⟨_, rfl⟩
    rw [← htp] at hwr hjs
    have hnn : ((len a : Nat) : Int) < (len a : Int) + 1 := by omega
    simp [hnn, h0, h1, h6, h13, h14, ← la, hkl, ← hW, hjg, hjs, hn, rowE, hwr, ownQ]
end Go.Proofs.YtepfpgnjpkcgmaaGreat

/-
  nat: products.
-/
namespace Go.Proofs.YtepfpgnjpkcgmaaGreat
open Go Go.Abs Go.Limbs
variable {base : Prot}
set_option maxRecDepth 20000
attribute [local irreducible] vc
attribute [local simp] pureS touchV freezeL fuel shiftV u64 au
theorem seg_eq {l : List Nat} (h : Wf l) (off n : Nat) : seg l off n = val l / B ^ off % B ^ n := by
  unfold seg
  rw [val_take_eq (h.drop off), val_drop_eq h]
theorem part_val {l : List Nat} {off n v : Nat} (h : off + n ≤ l.length) (hv : v < B ^ n) : val (part l off n v) + B ^ off * seg l off n = val l + B ^ off * v := by
  have e : val l = val (join (l.take off) ((l.drop off).take n) (l.drop (off + n))) := by rw [← join_split l h]
  rw [e]
  unfold part join seg
  have h1 : (l.take off).length = off := by simp; omega
  have h2 : ((l.drop off).take n).length = n := by simp; omega
  rw [val_append, val_append, val_append, val_append, List.length_append, List.length_append, length_fix, h1, h2, val_fix_of hv]
  omega
def Tmul : Tab := (Tab.none.with 184 (pureS sTrim)).own 183 rowM
theorem Tmul_ok : TabOk Tryz.prog base Tmul := Tab.own_ok (Tab.with_ok Tab.none_ok trim_ok) row_ok
theorem Tmul_row : Tmul.mu 183 = rowM := (rfl)
theorem Tmul_mu (a : List AVal) (H : Heap) : Tmul.mu 184 a H = none := (rfl)
theorem Tmul_trim : Tmul.fn 184 = pureS sTrim := (rfl)
def sTimes : List PVal → Option PVal
  | [.lst xs, .lst ys] => match decN xs, decN ys with | some a, some b => some (numP (a * b)) | _, _ => none
  | _ => none
theorem sTimes_num {a b : Nat} (ha : len a ≤ 100000) (hb : len b ≤ 100000) : sTimes [.lst ((limbs a).map u64), .lst ((limbs b).map u64)] = some (.lst ((limbs (a * b)).map u64)) := by
  simp only [sTimes, decN_num ha, decN_num hb]; rfl
theorem times_step {a z i la : Nat} {l : List Nat} {t : Nat} (hw : Wf l) (hl : i + (la + 1) ≤ l.length) (ha : a < B ^ la) (hz : z < B) (ht : t < B ^ i) (hv : val l = a * t) :
    val (part l i (la + 1) (seg l i (la + 1) + a * z)) = a * (t + B ^ i * z) := by
  have hs : seg l i (la + 1) < B ^ la := by
    rw [seg_eq hw]
    refine Nat.lt_of_le_of_lt (Nat.mod_le _ _) ?_
    rw [Nat.div_lt_iff_lt_mul (Bpow_pos i), hv]
    exact Nat.mul_lt_mul'' ha ht
  have hsum : seg l i (la + 1) + a * z < B ^ (la + 1) := by
    have h1 : (a + 1) * z ≤ B ^ la * z := Nat.mul_le_mul_right _ ha
    have h2 : B ^ la * (z + 1) ≤ B ^ la * B := Nat.mul_le_mul_left _ hz
    rw [Nat.pow_succ]
    rw [Nat.mul_add, Nat.mul_one] at h2
    rw [Nat.add_mul, Nat.one_mul] at h1
    omega
  have := part_val hl hsum
  rw [hv, Nat.mul_add] at this
  rw [Nat.mul_add, Nat.mul_left_comm a]
  omega
theorem times_ok : FnOk Tryz.prog base 148 (pureS sTimes) := by
  refine pure_of_vc hmix Tmul_ok globNone low148 fun args z hs hf => ?_
  unfold sTimes at hs
  split at hs
  case h_2 => cases hs
  rename_i xs ys
  split at hs
  case h_2 => cases hs
  rename_i a b ha hb
  cases hs
  obtain ⟨rfl, hla⟩ := decN_some ha
  obtain ⟨rfl, hlb⟩ := decN_some hb
  refine ⟨by simp [lf148], ?_⟩
  have la : (limbs a).length = len a := rfl
  have lb : (limbs b).length = len b := rfl
  have wb := wf_limbs b
  obtain ⟨M, hM⟩ : ∃ M, M = len a + len b := ⟨_, rfl⟩
  obtain ⟨N, hN⟩ : ∃ N, N = M + 1 := ⟨_, rfl⟩
  have hcap := mul_capI N (by omega)
  have hw1 : IntKind.i64.wrap ((len a : Int) + len b) = (M : Int) := by rw [← Int.natCast_add, ← hM]; exact wrap_i (by omega)
  have hw2 : IntKind.i64.wrap ((M : Int) + 1) = (N : Int) := by rw [wrap_succ (i := M) (by omega), hN]
  simp [lf148, la, lb, hw1, hw2, hcap]
  simp only [lf148_B0, vc_block]
  refine loop_ind (fun fr H => ∃ (i : Nat) (l : List Nat), i ≤ len b ∧ l.length = N ∧ Wf l ∧ val l = a * val ((limbs b).take i) ∧ H = [rowE 0 l] ∧ fr 0 = .p (.lst ((limbs a).map u64)) ∧ fr 5 = .own 0 0 N 0 ∧
      fr 15 = .p (.lst ((limbs b).map u64)) ∧ fr 16 = .p (.int .i64 (len b)) ∧ fr 17 = .p (.int .i64 i))
    (fun fr _ => len b - ivar (fr 17)) ⟨0, List.replicate N 0, by omega, by simp, Wf.zeros _, by simp [val_zeros, val_nil], by simp [rowE], by simp, by simp, by simp, by simp, by simp⟩ ?_
  rintro fr H ⟨i, l, hi, hl, hwl, hv, rfl, h0, h5, h15, h16, h17⟩
  by_cases h : i < len b
  · obtain ⟨x, hx⟩ : ∃ x, (limbs b)[i]? = some x := ⟨_, List.getElem?_eq_getElem (by omega)⟩
    have hxB := wb.get hx
    obtain ⟨J, hJ⟩ : ∃ J, J = i + len a := ⟨_, rfl⟩
    obtain ⟨K, hK⟩ : ∃ K, K = J + 1 := ⟨_, rfl⟩
    have hw3 : IntKind.i64.wrap ((i : Int) + len a) = (J : Int) := by rw [← Int.natCast_add, ← hJ]; exact wrap_i (by omega)
    have hw4 : IntKind.i64.wrap ((J : Int) + 1) = (K : Int) := by rw [wrap_succ (i := J) (by omega), hK]
    have hiK : i ≤ K := by omega
    have hKN : K ≤ N := by omega
    have hsub : ((K : Int) - i).toNat = len a + 1 := by omega
    have hrow := rowM_at (H := [rowE 0 l]) (k := 0) (off := i) (n := len a + 1) (ver := 0) (z := x) (a := a) (l := l) rfl hwl (by omega) (by omega) hla hxB rfl
    have hst := times_step hwl (by omega) (lt_len a) hxB (val_take_lt wb i) hv (z := x)
    obtain ⟨L, hL⟩ : ∃ L, L = part l i (len a + 1) (seg l i (len a + 1) + a * x) := ⟨_, rfl⟩
    have hLw : Wf L := by rw [hL]; exact part_wf hwl _ _ _
    have hLl : L.length = N := by rw [hL, part_length (by omega), hl]
    rw [← hL] at hrow hst
    simp [rowE] at hrow
    simp [h0, h5, h15, h16, h17, h, getE hx, la, lb, hw3, hw4, hiK, hKN, hsub, hrow, rowE, Tmul_row, wrap_succ (i := i) (by omega), ivar]
    exact ⟨⟨i + 1, by omega, L, hLl, hLw, by rw [val_take_succ hx]; exact hst, rfl, by omega⟩, by omega⟩
  · have hil : i = len b := by omega
    subst hil
    rw [List.take_of_length_le (by omega), val_limbs] at hv
    obtain ⟨hT, ht⟩ := row_end hl hwl (by omega) hv
    simp [h5, h16, h17, rowE, hl, hT, ht, mapO_au_take, mapO_au, touch_au, touch_au_take, Tmul_mu, Tmul_trim]
end Go.Proofs.YtepfpgnjpkcgmaaGreat
