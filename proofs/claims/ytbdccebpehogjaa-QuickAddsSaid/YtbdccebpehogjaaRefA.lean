/-
  What the reference's numerals compute. AcvNo conditions beyond the lemmas' own hypotheses.
-/
import Derived.Test.YtbdccebpehogjaaQuickL
import Derived.Test.YtbdccebpehogjaaNatC
set_option linter.unusedSimpArgs false
set_option linter.unnecessarySimpa false
set_option linter.unusedVariables false
set_option linter.constructorNameAsVariable false

/-
 The reference: rows of limbs without zeros at the end, their order, what is a number, sizes.
-/
namespace Go.Proofs.Ytbdccebpehogjaa
open Go Go.Abs Go.Limbs
variable {base : Prot}
set_option maxRecDepth 20000
attribute [local irreducible] vc
attribute [local simp] pureS touchV freezeL fuel shiftV u64 au
theorem au_comp : AVal.p ∘ u64 = au := rfl
theorem au_cells (ys : List Nat) : (ys.map au).all (fun y => y.cells.length == 1 && y.cells.all AVal.isCell) = true := by
 rw [List.all_eq_true]
 intro x hx
 obtain ⟨y, _, rfl⟩ := List.mem_map.1 hx
 rfl
theorem app_num {H : Heap} {k ver : Nat} {out ys : List Nat} (hk : H[k]? = some (rowE ver out)) (hn : out.length + ys.length ≤ 1000000) :
  appV 1 8 56 (.own k 0 out.length ver) (ys.map au) H = some (.own k 0 (out.length + ys.length) (ver + 1), H.set k (rowE (ver + 1) (out ++ ys))) := by
 have hm : maxLen = 9223372036854775807 := rfl
 unfold appV
 rw [if_pos ⟨au_cells ys, by decide⟩]
 simp only
 rw [hk]
 simp only [rowE]
 rw [if_pos (by simp; omega)]
 simp
theorem app_nil {H : Heap} {ys : List Nat} (hn : ys.length ≤ 1000000) :
  appV 1 8 56 (.tight []) (ys.map au) H = some (.own H.length 0 ys.length 0, H ++ [rowE 0 ys]) := by
 have hm : maxLen = 9223372036854775807 := rfl
 unfold appV
 rw [if_pos ⟨au_cells ys, by decide⟩]
 simp only
 rw [if_pos (by simp; omega)]
 simp [rowE]
theorem rtrim_ok : FnOk Try.prog base 56 (pureS sTrim) := by
 refine pure_of_vc hmix Tab.none_ok globNone low56 fun args z hs hf => ?_
 unfold sTrim at hs
 split at hs
 case h_2 => cases hs
 rename_i es
 split at hs
 case h_2 => cases hs
 rename_i l hd
 split at hs
 case isFalse => cases hs
 rename_i hl
 obtain ⟨rfl, hw⟩ := decU_some hd
 cases hs
 refine ⟨by simp [lf56], ?_⟩
 simp [lf56]
 simp only [lf56_B0, vc_block]
 refine loop_ind (fun fr H => ∃ n : Nat, H = [] ∧ n ≤ l.length ∧ val (l.take n) = val l ∧ fr 0 = .p (.lst (l.map u64)) ∧ fr 3 = .p (.int .i64 n)) (fun fr _ => ivar (fr 3)) ⟨l.length, rfl, by omega, by simp, by simp, by simp⟩ ?_
 rintro fr H ⟨n, rfl, hn, hv, h0, h3⟩
 have hcap := mul_capI n (by omega)
 have hnI : (n : Int) ≤ l.length := by omega
 by_cases h : 0 < n
 ·have hI : (0 : Int) < n := by omega
  obtain ⟨x, hx⟩ : ∃ x, l[n - 1]? = some x := ⟨_, List.getElem?_eq_getElem (by omega)⟩
  obtain ⟨n1, hn1⟩ : ∃ t, t = n - 1 := ⟨_, rfl⟩
  rw [← hn1] at hx
  have hw1 : IntKind.i64.wrap ((n : Int) - 1) = (n1 : Int) := by rw [IntWalk.i64_in _ (by omega)]; omega
  have hlt : n1 < l.length := by omega
  by_cases hz : x = 0
  ·subst hz
   simp [h0, h3, hI, h, hw1, hx, getE hx, ivar]
   refine ⟨⟨n1, by omega, ?_, rfl⟩, by omega⟩
   have := trim_step (a := l) (n := n1) hx
   rw [show n1 + 1 = n by omega] at this
   rw [← this, hv]
  ·have hb : ((x : Int) == 0) = false := beq_false_of_ne (by omega)
   have hres : numP (val l) = .lst ((l.take n).map u64) := by
    rw [trim_done (a := l) (n := n) hw hv (.inr ⟨x, by rw [← hn1]; exact hx, hz⟩)]; rfl
   have hln : (l.take n).length = n := by rw [List.length_take]; omega
   have happ := app_num (H := [rowE 0 []]) (k := 0) (ver := 0) (out := []) (ys := l.take n) rfl (by simp; omega)
   rw [hln] at happ
   simp only [List.map_take, List.length_nil, Nat.zero_add, List.nil_append, List.set_cons_zero] at happ
   simp [rowE, au_comp, -appV] at happ
   simp [h0, h3, hI, h, hw1, hx, getE hx, hb, hres, hcap, hnI, fillS, mapO_au, touch_au, au_comp, happ, -appV]
   refine ⟨by rw [Nat.min_eq_left hn]; exact Nat.le_refl _, ?_⟩
   rw [List.take_take, Nat.min_self, mapO_au_take]
 ·have hn0 : n = 0 := by omega
  subst hn0
  have hz : val l = 0 := by rw [← hv]; rfl
  simp [h0, h3, hz, numP, lstP, limbs_zero, fillS]
theorem rvalid_ok : FnOk Try.prog base 45 (pureS sValid) := by
 refine pure_of_vc hmix Tab.none_ok globNone low45 fun args z hs hf => ?_
 unfold sValid at hs
 split at hs
 case h_2 => cases hs
 rename_i es
 split at hs
 case h_2 => cases hs
 rename_i l hd
 obtain ⟨rfl, hw⟩ := decU_some hd
 cases hs
 refine ⟨by simp [lf45], ?_⟩
 have hc := canon_last hw
 by_cases h1 : (l.length : Int) ≤ 64
 ·have h1' : l.length ≤ 64 := by omega
  by_cases h0 : l.length = 0
  ·have : l = [] := List.length_eq_zero_iff.1 h0
   subst this
   simp [lf45, val_nil, limbs_zero]
  ·have hw1 := wrap_pred (i := l.length) (by omega) (by omega)
   obtain ⟨x, hx⟩ : ∃ x, l[l.length - 1]? = some x := ⟨_, List.getElem?_eq_getElem (by omega)⟩
   have hb2 : ((l.length : Int) == 0) = false := beq_false_of_ne (by omega)
   have hlast : l.getLast? = some x := by rw [List.getLast?_eq_getElem?]; exact hx
   rw [hlast] at hc
   by_cases hz : x = 0
   ·subst hz
    have hne : ¬ limbs (val l) = l := fun e => hc.1 e rfl
    have hb : ((0 : Int) != 0) = false := rfl
    simp [lf45, h1, h1', hw1, hx, hb, hb2, hne]
   ·have hb : ((x : Int) != 0) = true := by simp; omega
    have heq : limbs (val l) = l := hc.2 (fun e => hz (by simpa using e))
    simp [lf45, h1, h1', hw1, hx, hb, hb2, heq]
 ·have h1' : ¬ l.length ≤ 64 := by omega
  simp [lf45, h1, h1']
theorem rcmp_ok : FnOk Try.prog base 46 (pureS sOrder) := by
 refine pure_of_vc hmix Tab.none_ok globNone low46 fun args z hs hf => ?_
 unfold sOrder at hs
 split at hs
 case h_2 => cases hs
 rename_i xs ys
 split at hs
 case h_2 => cases hs
 rename_i a b ha hb
 cases hs
 obtain ⟨rfl, hla⟩ := decN_some ha
 obtain ⟨rfl, hlb⟩ := decN_some hb
 refine ⟨by simp [lf46], ?_⟩
 have wa := wf_limbs a
 have wb := wf_limbs b
 have va := val_limbs a
 have vb := val_limbs b
 have la : len a = (limbs a).length := rfl
 have lb : len b = (limbs b).length := rfl
 by_cases h : (limbs a).length = (limbs b).length
 ·have hbn : (((limbs a).length : Int) != ((limbs b).length : Int)) = false := by simp [h]
  simp [lf46, hbn]
  simp only [lf46_B0, vc_block]
  refine loop_ind (fun fr H => ∃ n : Nat, n ≤ (limbs a).length ∧ (limbs a).drop n = (limbs b).drop n ∧ fr 0 = .p (.lst ((limbs a).map u64)) ∧ fr 1 = .p (.lst ((limbs b).map u64)) ∧ fr 5 = .p (.int .i64 ((n : Int) - 1)))
   (fun fr _ => dvar (fr 5)) ⟨(limbs a).length, by omega, by rw [List.drop_length, h, List.drop_length], by simp, by simp, ?_⟩ ?_
  ·simp [IntWalk.i64_in ((limbs a).length - 1) (by omega)]
  rintro fr H ⟨n, hn, hd, h0, h1, h5⟩
  by_cases hn0 : 0 < n
  ·obtain ⟨m, rfl⟩ : ∃ m, n = m + 1 := ⟨n - 1, by omega⟩
   have e5 : (((m + 1 : Nat) : Int) - 1) = (m : Int) := by omega
   rw [e5] at h5
   obtain ⟨x, hx⟩ : ∃ x, (limbs a)[m]? = some x := ⟨_, List.getElem?_eq_getElem (by omega)⟩
   obtain ⟨y, hy⟩ : ∃ y, (limbs b)[m]? = some y := ⟨_, List.getElem?_eq_getElem (by omega)⟩
   have hmb : m < (limbs b).length := by omega
   have hma : m < (limbs a).length := by omega
   by_cases hxy : x = y
   ·subst hxy
    have hw : IntKind.i64.wrap ((m : Int) - 1) = (m : Int) - 1 := IntWalk.i64_in _ (by omega)
    simp [h0, h1, h5, hx, hy, getE hx, getE hy, hma, hmb, hw, dvar]
    exact ⟨m, by omega, by rw [drop_get hx, drop_get hy, hd], rfl⟩
   ·have hc : cmpI a b = cmpI x y := by
     have := cmpI_first wa wb hd hx hy hxy
     rwa [va, vb] at this
    by_cases hlt : x < y
    ·have hc2 : cmpI x y = -1 := cmpI_lt hlt
     have hltI : (x : Int) < y := by omega
     simp [h0, h1, h5, hx, hy, getE hx, getE hy, hma, hmb, hlt, hc, hc2]
    ·have hgt : y < x := by omega
     have hc2 : cmpI x y = 1 := cmpI_gt hgt
     simp [h0, h1, h5, hx, hy, getE hx, getE hy, hma, hmb, hlt, hgt, hc, hc2]
  ·have : n = 0 := by omega
   subst this
   have e : a = b := by
    rw [List.drop_zero, List.drop_zero] at hd
    rw [← va, ← vb, hd]
   subst e
   simp [h5, cmpI_eq]
 ·have hbn : (((limbs a).length : Int) != ((limbs b).length : Int)) = true := by simp; omega
  by_cases h1 : (limbs a).length < (limbs b).length
  ·have hc : cmpI a b = -1 := cmpI_lt (lt_of_len h1)
   simp [lf46, hbn, h1, hc]
  ·have h2 : (limbs b).length < (limbs a).length := by omega
   have hc : cmpI a b = 1 := cmpI_gt (lt_of_len h2)
   simp [lf46, hbn, h1, hc]
def Tb64 : Tab := Tab.none.with 92 (pureS sLen64)
theorem Tb64_ok : TabOk Try.prog base Tb64 := Tab.with_ok Tab.none_ok len64_ok
theorem Tb64_mu (f : FuncId) (a : List AVal) (H : Heap) : Tb64.mu f a H = none := (rfl)
theorem Tb64_len : Tb64.fn 92 = pureS sLen64 := (rfl)
theorem rbits_ok : FnOk Try.prog base 75 (pureS sSize) := by
 refine pure_of_vc hmix Tb64_ok globNone low75 fun args z hs hf => ?_
 unfold sSize at hs
 split at hs
 case h_2 => cases hs
 rename_i xs
 split at hs
 case h_2 => cases hs
 rename_i a ha
 cases hs
 obtain ⟨rfl, hla⟩ := decN_some ha
 refine ⟨by simp [lf75], ?_⟩
 have la : (limbs a).length = len a := rfl
 by_cases h : a = 0
 ·subst h
  simp [lf75, limbs_zero, size_zero]
 ·have hl : len a ≠ 0 := fun e => h (len_eq_zero.1 e)
  have hb : ((len a : Int) == 0) = false := beq_false_of_ne (by omega)
  obtain ⟨n1, hn1⟩ : ∃ t, t = len a - 1 := ⟨_, rfl⟩
  obtain ⟨x, hx⟩ : ∃ x, (limbs a)[len a - 1]? = some x := ⟨_, List.getElem?_eq_getElem (by omega)⟩
  have hxB := (wf_limbs a).get hx
  have hsz := size_top h hx
  rw [← hn1] at hx hsz
  have h64 := size64 hxB
  have w1 : IntKind.i64.wrap ((len a : Int) - 1) = (n1 : Int) := by rw [IntWalk.i64_in _ (by omega)]; omega
  obtain ⟨p, hp⟩ : ∃ t, t = 64 * n1 := ⟨_, rfl⟩
  have w2 : IntKind.i64.wrap (64 * (n1 : Int)) = (p : Int) := by rw [IntWalk.i64_in _ (by omega)]; omega
  have w3 : IntKind.i64.wrap ((p : Int) + size x) = (size a : Int) := by rw [IntWalk.i64_in _ (by omega)]; omega
  have hL := sLen64_nat hxB
  simp [lf75, la, hb, w1, w2, w3, hL, hx, getE hx, Tb64_mu, Tb64_len]
end Go.Proofs.Ytbdccebpehogjaa

/-
 The reference: sums and differences.
-/
namespace Go.Proofs.Ytbdccebpehogjaa
open Go Go.Abs Go.Limbs
variable {base : Prot}
set_option maxRecDepth 20000
attribute [local irreducible] vc
attribute [local simp] pureS touchV freezeL fuel shiftV u64 au
def IsRow (H : Heap) (x : AVal) (l : List Nat) : Prop := (l = [] ∧ x = .tight []) ∨ ∃ j ver, x = .own j 0 l.length ver ∧ H[j]? = some (rowE ver l)
theorem app_row {H : Heap} {x : AVal} {l : List Nat} (h : IsRow H x l) (y : Nat) (hn : l.length + 1 ≤ 1000000) (g : Ent) :
  ∃ j ver H', appV 1 8 56 x [.p (.int .u64 y)] (H ++ [g]) = some (.own j 0 (l.length + 1) ver, H') ∧ H'[j]? = some (rowE ver (l ++ [y])) := by
 rcases h with ⟨rfl, rfl⟩ | ⟨j, ver, rfl, hj⟩
 ·refine ⟨_, _, _, app_nil (H := H ++ [g]) (ys := [y]) (by simp), ?_⟩
  rw [List.getElem?_append_right (Nat.le_refl _), Nat.sub_self]; rfl
 ·have hjl := (List.getElem?_eq_some_iff.1 hj).1
  have hj' : (H ++ [g])[j]? = some (rowE ver l) := by rw [List.getElem?_append_left hjl]; exact hj
  exact ⟨_, _, _, app_num (ys := [y]) hj' (by simpa using hn), by rw [List.getElem?_set_self (by simp; omega)]⟩
theorem IsRow.own {H : Heap} {j ver : Nat} {l : List Nat} (h : H[j]? = some (rowE ver l)) : IsRow H (.own j 0 l.length ver) l := .inr ⟨j, ver, rfl, h⟩
theorem limb_at {a : List Nat} (ha : Wf a) (i : Nat) : ∃ x, x < B ∧ val (a.take (i + 1)) = val (a.take i) + B ^ i * x ∧ ((i < a.length ∧ a[i]? = some x) ∨ (¬ i < a.length ∧ x = 0)) := by
 by_cases h : i < a.length
 ·obtain ⟨x, hx⟩ : ∃ x, a[i]? = some x := ⟨_, List.getElem?_eq_getElem h⟩
  exact ⟨x, ha.get hx, val_take_succ hx, .inl ⟨h, hx⟩⟩
 ·have hn : a[i]? = none := List.getElem?_eq_none (by omega)
  exact ⟨0, B_pos, by rw [take_over hn]; simp, .inr ⟨h, rfl⟩⟩
def Trs : Tab := ((Tab.none.with 56 (pureS sTrim)).ext 94 sAdd64).ext 99 sSub64
theorem Trs_ok : TabOk Try.prog base Trs := Tab.ext_ok (Tab.ext_ok (Tab.with_ok Tab.none_ok rtrim_ok) add64_at) sub64_at
theorem Trs_mu (f : FuncId) (a : List AVal) (H : Heap) : Trs.mu f a H = none := (rfl)
theorem Trs_trim : Trs.fn 56 = pureS sTrim := (rfl)
theorem Trs_add : Trs.ex 94 = sAdd64 := (rfl)
theorem Trs_sub : Trs.ex 99 = sSub64 := (rfl)
theorem radd_ok : FnOk Try.prog base 95 (pureS sPlus) := by
 refine pure_of_vc hmix Trs_ok globNone low95 fun args z hs hf => ?_
 unfold sPlus at hs
 split at hs
 case h_2 => cases hs
 rename_i xs ys
 split at hs
 case h_2 => cases hs
 rename_i a b ha hb
 cases hs
 obtain ⟨rfl, hla⟩ := decN_some ha
 obtain ⟨rfl, hlb⟩ := decN_some hb
 refine ⟨by simp [lf95], ?_⟩
 have wa := wf_limbs a
 have wb := wf_limbs b
 have va := val_limbs a
 have vb := val_limbs b
 have la : (limbs a).length = len a := rfl
 have lb : (limbs b).length = len b := rfl
 simp [lf95]
 simp only [lf95_B0, vc_block]
 refine loop_ind (fun fr H => ∃ (i : Nat) (l : List Nat) (c : Nat) (x : AVal), i ≤ max (len a) (len b) ∧ l.length = i ∧ Wf l ∧ c ≤ 1 ∧ val l + B ^ i * c = val ((limbs a).take i) + val ((limbs b).take i) ∧ IsRow H x l ∧
   fr 0 = .p (.lst ((limbs a).map u64)) ∧ fr 1 = .p (.lst ((limbs b).map u64)) ∧ fr 5 = x ∧ fr 6 = .p (.int .u64 c) ∧ fr 7 = .p (.int .i64 i))
  (fun fr _ => max (len a) (len b) - ivar (fr 7)) ⟨0, [], 0, .tight [], by omega, rfl, Wf.nil, by omega, by simp [val_nil], .inl ⟨rfl, rfl⟩, by simp, by simp, by simp, by simp, by simp⟩ ?_
 rintro fr H ⟨i, l, c, x, hi, hl, hwl, hc, hv, hR, f0, f1, f5, f6, f7⟩
 by_cases hlt : i < len a ∨ i < len b
 ·obtain ⟨p, hpB, hpv, hp⟩ := limb_at wa i
  obtain ⟨q, hqB, hqv, hq⟩ := limb_at wb i
  rw [la] at hp
  rw [lb] at hq
  have hst := add_step (p := val l) (u := val ((limbs a).take i)) (v := val ((limbs b).take i)) (P := B ^ i) (x := p) (y := q) (c := c) hv
  have hsa := sAdd64_nat (x := p) (y := q) hc
  have hD := addD_lt p q c
  have hC := add_carry hpB hqB hc
  obtain ⟨D, hDD⟩ : ∃ t, t = addD p q c := ⟨_, rfl⟩
  obtain ⟨C, hCC⟩ : ∃ t, t = addC p q c := ⟨_, rfl⟩
  rw [← hDD, ← hCC] at hsa hst
  rw [← hDD] at hD
  rw [← hCC] at hC
  obtain ⟨j, ver, H', happ, hj⟩ := app_row hR D (by omega) ⟨1, 0, false, [.p (.int .u64 D)], 56⟩
  have hnew : val (l ++ [D]) + B ^ (i + 1) * C = val ((limbs a).take (i + 1)) + val ((limbs b).take (i + 1)) := by
   rw [val_snoc, hl, hpv, hqv, Nat.pow_succ, ← hst]
  have hwn : Wf (l ++ [D]) := hwl.append (Wf.cons hD Wf.nil)
  have hw := wrap_succ (i := i) (by omega)
  have hRn : IsRow H' (.own j 0 (l.length + 1) ver) (l ++ [D]) := by
   have := IsRow.own hj
   simpa using this
  rcases hp with ⟨hp1, hp2⟩ | ⟨hp1, rfl⟩
  ·rcases hq with ⟨hq1, hq2⟩ | ⟨hq1, rfl⟩
   ·simp [f0, f1, f5, f6, f7, la, lb, hp1, hq1, hp2, hq2, getE hp2, getE hq2, hsa, happ, hw, fillS, Trs_add, ivar, -appV]
    exact ⟨⟨i + 1, by omega, l ++ [D], by simp [hl], hwn, C, hC, hnew, _, hRn, rfl, rfl, by omega⟩, by omega⟩
   ·simp only [Int.natCast_zero] at hsa
    simp [f0, f1, f5, f6, f7, la, lb, hp1, hq1, hp2, getE hp2, hsa, happ, hw, fillS, Trs_add, ivar, -appV]
    exact ⟨⟨i + 1, by omega, l ++ [D], by simp [hl], hwn, C, hC, hnew, _, hRn, rfl, rfl, by omega⟩, by omega⟩
  ·rcases hq with ⟨hq1, hq2⟩ | ⟨hq1, rfl⟩
   ·simp only [Int.natCast_zero] at hsa
    simp [f0, f1, f5, f6, f7, la, lb, hp1, hq1, hq2, getE hq2, hsa, happ, hw, fillS, Trs_add, ivar, -appV]
    exact ⟨⟨i + 1, by omega, l ++ [D], by simp [hl], hwn, C, hC, hnew, _, hRn, rfl, rfl, by omega⟩, by omega⟩
   ·omega
 ·have h1 : ¬ i < len a := by omega
  have h2 : ¬ i < len b := by omega
  have hva : val ((limbs a).take i) = a := by rw [List.take_of_length_le (by omega)]; exact va
  have hvb : val ((limbs b).take i) = b := by rw [List.take_of_length_le (by omega)]; exact vb
  rw [hva, hvb] at hv
  subst f5
  by_cases hc0 : c = 0
  ·subst hc0
   have hvl : val l = a + b := by simpa using hv
   have ht := sTrim_map hwl (by omega)
   rw [hvl] at ht
   rcases hR with ⟨hl0, hx⟩ | ⟨j, ver, hx, hj⟩
   ·rw [hl0] at ht
    simp only [List.map_nil] at ht
    simp [f0, f1, hx, f6, f7, la, lb, h1, h2, ht, Trs_mu, Trs_trim, numP, lstP]
   ·unfold rowE at hj
    have htk : List.take l.length (l.map u64) = l.map u64 := List.take_of_length_le (by simp)
    simp [f0, f1, hx, hj, f6, f7, la, lb, h1, h2, ht, htk, mapO_au, touch_au, mapO_au_take, touch_au_take, Trs_mu, Trs_trim, numP, lstP]
  ·have hc1 : c = 1 := by omega
   subst hc1
   have hwn : Wf (l ++ [1]) := hwl.append (Wf.cons (by decide) Wf.nil)
   have hvl : val (l ++ [1]) = a + b := by rw [val_snoc, hl]; exact hv
   have ht := sTrim_map hwn (by simp; omega)
   rw [hvl] at ht
   obtain ⟨j, ver, H', happ, hj⟩ := app_row hR 1 (by omega) ⟨1, 0, false, [.p (.int .u64 1)], 56⟩
   obtain ⟨L, hL⟩ : ∃ t, t = l ++ [1] := ⟨_, rfl⟩
   have hLl : l.length + 1 = L.length := by rw [hL]; simp
   rw [← hL] at ht hj
   rw [hLl] at happ
   have htk : List.take L.length (L.map u64) = L.map u64 := List.take_of_length_le (by simp)
   unfold rowE at hj
   simp only [Int.natCast_one] at happ
   simp [f0, f1, f6, f7, la, lb, h1, h2, happ, fillS, -appV]
   simp [hj, ht, htk, mapO_au, touch_au, mapO_au_take, touch_au_take, Trs_mu, Trs_trim, numP, lstP]
theorem rsub_ok : FnOk Try.prog base 89 (pureS sMinus) := by
 refine pure_of_vc hmix Trs_ok globNone low89 fun args z hs hf => ?_
 unfold sMinus at hs
 split at hs
 case h_2 => cases hs
 rename_i xs ys
 split at hs
 case h_2 => cases hs
 rename_i a b ha hb
 split at hs
 case isFalse => cases hs
 rename_i hba
 cases hs
 obtain ⟨rfl, hla⟩ := decN_some ha
 obtain ⟨rfl, hlb⟩ := decN_some hb
 refine ⟨by simp [lf89], ?_⟩
 have wa := wf_limbs a
 have wb := wf_limbs b
 have va := val_limbs a
 have vb := val_limbs b
 have la : (limbs a).length = len a := rfl
 have lb : (limbs b).length = len b := rfl
 have hlen := len_mono hba
 simp [lf89]
 simp only [lf89_B0, vc_block]
 refine loop_ind (fun fr H => ∃ (i : Nat) (l : List Nat) (c : Nat) (x : AVal), i ≤ len a ∧ l.length = i ∧ Wf l ∧ c ≤ 1 ∧ val l + val ((limbs b).take i) = val ((limbs a).take i) + B ^ i * c ∧ IsRow H x l ∧
   fr 0 = .p (.lst ((limbs a).map u64)) ∧ fr 1 = .p (.lst ((limbs b).map u64)) ∧ fr 5 = x ∧ fr 6 = .p (.int .u64 c) ∧ fr 7 = .p (.int .i64 i))
  (fun fr _ => len a - ivar (fr 7)) ⟨0, [], 0, .tight [], by omega, rfl, Wf.nil, by omega, by simp [val_nil], .inl ⟨rfl, rfl⟩, by simp, by simp, by simp, by simp, by simp⟩ ?_
 rintro fr H ⟨i, l, c, x, hi, hl, hwl, hc, hv, hR, f0, f1, f5, f6, f7⟩
 by_cases hp1 : i < len a
 ·obtain ⟨p, hp2⟩ : ∃ p, (limbs a)[i]? = some p := ⟨_, List.getElem?_eq_getElem (by omega)⟩
  have hpB := wa.get hp2
  have hpv := val_take_succ hp2
  obtain ⟨q, hqB, hqv, hq⟩ := limb_at wb i
  rw [lb] at hq
  have hst := sub_step (p := val l) (u := val ((limbs a).take i)) (v := val ((limbs b).take i)) (P := B ^ i) hpB hqB hc hv
  have hsa := sSub64_nat (x := p) (y := q) hc
  have hD := subD_lt p q c
  have hC := subC_le p q c
  obtain ⟨D, hDD⟩ : ∃ t, t = subD p q c := ⟨_, rfl⟩
  obtain ⟨C, hCC⟩ : ∃ t, t = subC p q c := ⟨_, rfl⟩
  rw [← hDD, ← hCC] at hsa hst
  rw [← hDD] at hD
  rw [← hCC] at hC
  obtain ⟨j, ver, H', happ, hj⟩ := app_row hR D (by omega) ⟨1, 0, false, [.p (.int .u64 D)], 56⟩
  have hnew : val (l ++ [D]) + val ((limbs b).take (i + 1)) = val ((limbs a).take (i + 1)) + B ^ (i + 1) * C := by
   rw [val_snoc, hl, hpv, hqv, Nat.pow_succ, ← hst]
  have hwn : Wf (l ++ [D]) := hwl.append (Wf.cons hD Wf.nil)
  have hw := wrap_succ (i := i) (by omega)
  have hRn : IsRow H' (.own j 0 (l.length + 1) ver) (l ++ [D]) := by
   have := IsRow.own hj
   simpa using this
  rcases hq with ⟨hq1, hq2⟩ | ⟨hq1, rfl⟩
  ·simp [f0, f1, f5, f6, f7, la, lb, hp1, hq1, hp2, getE hp2, hq2, getE hq2, hsa, happ, hw, fillS, Trs_sub, ivar, -appV]
   exact ⟨⟨i + 1, by omega, l ++ [D], by simp [hl], hwn, C, hC, hnew, _, hRn, rfl, rfl, by omega⟩, by omega⟩
  ·simp only [Int.natCast_zero] at hsa
   simp [f0, f1, f5, f6, f7, la, lb, hp1, hq1, hp2, getE hp2, hsa, happ, hw, fillS, Trs_sub, ivar, -appV]
   exact ⟨⟨i + 1, by omega, l ++ [D], by simp [hl], hwn, C, hC, hnew, _, hRn, rfl, rfl, by omega⟩, by omega⟩
 ·have hva : val ((limbs a).take i) = a := by rw [List.take_of_length_le (by omega)]; exact va
  have hvb : val ((limbs b).take i) = b := by rw [List.take_of_length_le (by omega)]; exact vb
  rw [hva, hvb] at hv
  subst f5
  have hvl := val_lt hwl
  rw [hl] at hvl
  have hc0 : c = 0 := by
   rcases Nat.eq_zero_or_pos c with h | h
   ·exact h
   ·have : c = 1 := by omega
    subst this
    omega
  subst hc0
  have hvl : val l = a - b := by omega
  have ht := sTrim_map hwl (by omega)
  rw [hvl] at ht
  rcases hR with ⟨hl0, hx⟩ | ⟨j, ver, hx, hj⟩
  ·rw [hl0] at ht
   simp only [List.map_nil] at ht
   simp [f0, f1, hx, f6, f7, la, lb, hp1, ht, Trs_mu, Trs_trim, numP, lstP]
  ·unfold rowE at hj
   have htk : List.take l.length (l.map u64) = l.map u64 := List.take_of_length_le (by simp)
   simp [f0, f1, hx, hj, f6, f7, la, lb, hp1, ht, htk, mapO_au, touch_au, mapO_au_take, touch_au_take, Trs_mu, Trs_trim, numP, lstP]
end Go.Proofs.Ytbdccebpehogjaa

/-
 The reference: products.
-/
namespace Go.Proofs.Ytbdccebpehogjaa
open Go Go.Abs Go.Limbs
variable {base : Prot}
set_option maxRecDepth 20000
attribute [local irreducible] vc
attribute [local simp] pureS touchV freezeL fuel shiftV u64 au
theorem val_set : ∀ {l : List Nat} {m o : Nat} (t : Nat), l[m]? = some o → val (l.set m t) + B ^ m * o = val l + B ^ m * t
 | [], m, o, t, h => by simp at h
 | x :: r, 0, o, t, h => by
  simp only [List.getElem?_cons_zero, Option.some.injEq] at h
  subst h
  simp only [List.set_cons_zero, val_cons, Nat.pow_zero, Nat.one_mul]
  omega
 | x :: r, m + 1, o, t, h => by
  simp only [List.getElem?_cons_succ] at h
  have ih := val_set t h
  simp only [List.set_cons_succ, val_cons, Nat.pow_succ]
  generalize val (r.set m t) = u at *
  generalize val r = v at *
  generalize B ^ m = p at *
  grind
theorem mac_set {V V' p o t c c' w x y : Nat} (hset : V' + p * o = V + p * t) (he : t + B * c' = x * y + c + o) (h : V + p * c = w) : V' + p * B * c' = w + p * (x * y) := by
 have e1 : p * (t + B * c') = p * (x * y + c + o) := by rw [he]
 rw [Nat.mul_add, Nat.mul_add, Nat.mul_add, ← Nat.mul_assoc] at e1
 omega
def Trm : Tab := ((Tab.none.with 56 (pureS sTrim)).with 93 (pureS sMul64)).ext 94 sAdd64
theorem Trm_ok : TabOk Try.prog base Trm := Tab.ext_ok (Tab.with_ok (Tab.with_ok Tab.none_ok rtrim_ok) mul64_ok) add64_at
theorem Trm_mu (f : FuncId) (a : List AVal) (H : Heap) : Trm.mu f a H = none := (rfl)
theorem Trm_trim : Trm.fn 56 = pureS sTrim := (rfl)
theorem Trm_mul : Trm.fn 93 = pureS sMul64 := (rfl)
theorem Trm_add : Trm.ex 94 = sAdd64 := (rfl)
theorem rmul_row {a b l0 : List Nat} {i x N : Nat} {R : LExit → AFr → Heap → Prop} {fr : AFr} {H : Heap} (wa : Wf a) (wb : Wf b) (hN : N = a.length + b.length) (hN2 : N ≤ 200000) (hx : a[i]? = some x) (hl0 : l0.length = N) (hw0 : Wf l0) (hH : H = [rowE 0 l0])
  (f0 : fr 0 = .p (.lst (a.map u64))) (f1 : fr 1 = .p (.lst (b.map u64))) (f5 : fr 5 = .own 0 0 N 0) (f6 : fr 6 = .p (.int .i64 i)) (f7 : fr 7 = .p (.int .u64 0)) (f8 : fr 8 = .p (.int .i64 0))
  (hR : ∀ (fr' : AFr) (l : List Nat) (c : Nat), l.length = N → Wf l → c < B → val l + B ^ (i + b.length) * c = val l0 + B ^ i * x * val b → (∀ m, i + b.length ≤ m → l[m]? = l0[m]?) →
   fr' 0 = .p (.lst (a.map u64)) → fr' 1 = .p (.lst (b.map u64)) → fr' 5 = .own 0 0 N 0 → fr' 6 = .p (.int .i64 i) → fr' 7 = .p (.int .u64 c) → R .normal fr' [rowE 0 l]) : vc Trm lf78_B0 R fr H := by
 have hia : i < a.length := (List.getElem?_eq_some_iff.1 hx).1
 have hxB := wa.get hx
 simp only [lf78_B0, vc_block]
 refine loop_ind (fun fr H => ∃ (k : Nat) (l : List Nat) (c : Nat), k ≤ b.length ∧ l.length = N ∧ Wf l ∧ c < B ∧ val l + B ^ (i + k) * c = val l0 + B ^ i * x * val (b.take k) ∧ (∀ m, i + k ≤ m → l[m]? = l0[m]?) ∧ H = [rowE 0 l] ∧
   fr 0 = .p (.lst (a.map u64)) ∧ fr 1 = .p (.lst (b.map u64)) ∧ fr 5 = .own 0 0 N 0 ∧ fr 6 = .p (.int .i64 i) ∧ fr 7 = .p (.int .u64 c) ∧ fr 8 = .p (.int .i64 k))
  (fun fr _ => b.length - ivar (fr 8)) ⟨0, l0, 0, by omega, hl0, hw0, B_pos, by simp [val_nil], fun m _ => rfl, hH, f0, f1, f5, f6, by rw [f7]; rfl, by rw [f8]; rfl⟩ ?_
 rintro fr H ⟨k, l, c, hk, hl, hwl, hcB, hv, hsame, rfl, f0, f1, f5, f6, f7, f8⟩
 by_cases hlt : k < b.length
 ·obtain ⟨y, hy⟩ : ∃ y, b[k]? = some y := ⟨_, List.getElem?_eq_getElem hlt⟩
  have hyB := wb.get hy
  obtain ⟨m, hm⟩ : ∃ t, t = i + k := ⟨_, rfl⟩
  have hmN : m < N := by omega
  obtain ⟨o, ho⟩ : ∃ o, l[m]? = some o := ⟨_, List.getElem?_eq_getElem (by omega)⟩
  have hoB := hwl.get ho
  have hM := sMul64_nat hxB hyB
  simp only [mulH, mulL] at hM
  have hlow : x * y % B < B := Nat.mod_lt _ B_pos
  have hA1 := sAdd64_zero (x := o) (y := x * y % B)
  have hA2 := sAdd64_zero (x := addD o (x * y % B) 0) (y := c)
  have hlo := mac_low' (x := x) (k := y) (c := c) (o := o)
  have hhi := mac_high' (x := x) (k := y) (c := c) (o := o)
  have hdl := mac_div_lt hxB hyB hcB hoB
  have e1 : addD o (x * y % B) 0 = (o + x * y % B) % B := by unfold addD; rw [Nat.add_zero]
  have e2 : addC o (x * y % B) 0 = (o + x * y % B) / B := by unfold addC; rw [Nat.add_zero]
  have e3 : addD (addD o (x * y % B) 0) c 0 = (x * y + c + o) % B := by rw [e1, ← hlo]; unfold addD; rw [Nat.add_zero]
  have e4 : addC (addD o (x * y % B) 0) c 0 = ((o + x * y % B) % B + c) / B := by rw [e1]; unfold addC; rw [Nat.add_zero]
  rw [e3, e4, e1] at hA2
  rw [e1, e2] at hA1
  obtain ⟨hi, hhi'⟩ : ∃ t, t = x * y / B := ⟨_, rfl⟩
  obtain ⟨lo, hlo'⟩ : ∃ t, t = x * y % B := ⟨_, rfl⟩
  rw [← hhi', ← hlo'] at hhi
  rw [← hhi', ← hlo'] at hM
  rw [← hlo'] at hA1 hA2
  obtain ⟨s1, hs1⟩ : ∃ t, t = (o + lo) % B := ⟨_, rfl⟩
  obtain ⟨d1, hd1⟩ : ∃ t, t = (o + lo) / B := ⟨_, rfl⟩
  rw [← hs1, ← hd1] at hhi hA1
  rw [← hs1] at hA2
  obtain ⟨d2, hd2⟩ : ∃ t, t = (s1 + c) / B := ⟨_, rfl⟩
  rw [← hd2] at hhi hA2
  obtain ⟨t, ht⟩ : ∃ t, t = (x * y + c + o) % B := ⟨_, rfl⟩
  obtain ⟨c', hc'⟩ : ∃ t, t = (x * y + c + o) / B := ⟨_, rfl⟩
  rw [← ht] at hA2
  rw [← hc'] at hhi hdl
  have htB : t < B := by rw [ht]; exact Nat.mod_lt _ B_pos
  have hset := val_set t ho
  have he : t + B * c' = x * y + c + o := by rw [ht, hc']; exact Nat.mod_add_div _ _
  have hw1 : IntKind.i64.wrap ((i : Int) + k) = (m : Int) := by rw [← Int.natCast_add, ← hm]; exact wrap_i (by omega)
  have hw2 : IntKind.u64.wrap ((hi : Int) + d1) = ((hi + d1 : Nat) : Int) := wrap_u_add (by omega)
  have hw3 : IntKind.u64.wrap (((hi + d1 : Nat) : Int) + d2) = (c' : Int) := by rw [wrap_u_add (by omega)]; rw [hhi]
  obtain ⟨hd, hhd⟩ : ∃ t, t = hi + d1 := ⟨_, rfl⟩
  rw [← hhd] at hw2 hw3
  have hw4 := wrap_succ (i := k) (by omega)
  have hnew : val (l.set m t) + B ^ (i + (k + 1)) * c' = val l0 + B ^ i * x * val (b.take (k + 1)) := by
   rw [← hm] at hv
   have := mac_set hset he hv
   rw [← Nat.add_assoc, ← hm, Nat.pow_succ, this, val_take_succ hy, Nat.mul_add, ← Nat.add_assoc, hm, Nat.pow_add]
   congr 1
   grind
  have hsame' : ∀ q, i + (k + 1) ≤ q → (l.set m t)[q]? = l0[q]? := fun q hq => by rw [List.getElem?_set_ne (by omega)]; exact hsame q (by omega)
  simp [f0, f1, f5, f6, f7, f8, hia, hlt, hx, hy, ho, getE hx, getE hy, hM, hA1, hA2, hw1, hw2, hw3, hw4, hmN, rowE, Trm_mu, Trm_mul, Trm_add, ivar]
  exact ⟨⟨k + 1, by omega, l.set m t, by simp [hl], hwl.set m htB, c', hdl, hnew, hsame', by rw [List.map_set]; rfl, rfl, by omega⟩, by omega⟩
 ·obtain rfl : k = b.length := by omega
  rw [List.take_of_length_le (Nat.le_refl _)] at hv
  simp [f1, f8]
  exact hR _ l c hl hwl hcB hv hsame (by simp [f0]) (by simp [f1]) (by simp [f5]) (by simp [f6]) (by simp [f7])
theorem rmul_ok : FnOk Try.prog base 78 (pureS sTimes) := by
 refine pure_of_vc hmix Trm_ok globNone low78 fun args z hs hf => ?_
 unfold sTimes at hs
 split at hs
 case h_2 => cases hs
 rename_i xs ys
 split at hs
 case h_2 => cases hs
 rename_i a b ha hb
 cases hs
 obtain ⟨rfl, hla⟩ := decN_some ha
 obtain ⟨rfl, hlb⟩ := decN_some hb
 refine ⟨by simp [lf78], ?_⟩
 have wa := wf_limbs a
 have wb := wf_limbs b
 have va := val_limbs a
 have vb := val_limbs b
 have la : (limbs a).length = len a := rfl
 have lb : (limbs b).length = len b := rfl
 obtain ⟨N, hN⟩ : ∃ t, t = len a + len b := ⟨_, rfl⟩
 have hcap := mul_capI N (by omega)
 have w1 : IntKind.i64.wrap ((len a : Int) + len b) = (N : Int) := by rw [← Int.natCast_add, ← hN]; exact wrap_i (by omega)
 simp [lf78, la, lb, w1, hcap]
 simp only [lf78_B1, vc_block]
 refine loop_ind (fun fr H => ∃ (i : Nat) (l : List Nat), i ≤ len a ∧ l.length = N ∧ Wf l ∧ val l = val ((limbs a).take i) * b ∧ (∀ m, i + len b ≤ m → m < N → l[m]? = some 0) ∧ H = [rowE 0 l] ∧
   fr 0 = .p (.lst ((limbs a).map u64)) ∧ fr 1 = .p (.lst ((limbs b).map u64)) ∧ fr 5 = .own 0 0 N 0 ∧ fr 6 = .p (.int .i64 i))
  (fun fr _ => len a - ivar (fr 6)) ⟨0, List.replicate N 0, by omega, by simp, Wf.zeros _, by rw [val_zeros]; simp [val_nil], fun m _ hm => by simp [hm], by simp [rowE], by simp, by simp, by simp, by simp⟩ ?_
 rintro fr H ⟨i, l, hi, hl, hwl, hv, hz, rfl, f0, f1, f5, f6⟩
 by_cases hlt : i < len a
 ·obtain ⟨x, hx⟩ : ∃ x, (limbs a)[i]? = some x := ⟨_, List.getElem?_eq_getElem (by omega)⟩
  obtain ⟨q, hq⟩ : ∃ t, t = i + len b := ⟨_, rfl⟩
  have hqN : q < N := by omega
  have w2 : IntKind.i64.wrap ((i : Int) + len b) = (q : Int) := by rw [← Int.natCast_add, ← hq]; exact wrap_i (by omega)
  have w3 := wrap_succ (i := i) (by omega)
  simp [f0, f1, f5, f6, la, lb, hlt]
  refine rmul_row (a := limbs a) (b := limbs b) (l0 := l) (i := i) (x := x) (N := N) wa wb (by rw [la, lb]; exact hN) (by omega) hx hl hwl rfl (by simp [f0]) (by simp [f1]) (by simp [f5]) (by simp [f6]) (by simp) (by simp) ?_
  intro fr' l' c hl' hw' hcB hv' hsame g0 g1 g5 g6 g7
  rw [lb, ← hq, vb] at hv'
  have ho : l'[q]? = some 0 := by rw [hsame q (by rw [lb]; omega)]; exact hz q (by omega) hqN
  have hset := val_set c ho
  have hnv : val (l'.set q c) = val ((limbs a).take (i + 1)) * b := by
   rw [val_take_succ hx, Nat.add_mul, ← hv, ← hv']
   omega
  have hnz : ∀ m, i + 1 + len b ≤ m → m < N → (l'.set q c)[m]? = some 0 := fun m hm hmN => by
   rw [List.getElem?_set_ne (by omega), hsame m (by rw [lb]; omega)]
   exact hz m (by omega) hmN
  simp [g0, g1, g5, g6, g7, lb, w2, w3, hqN, ho, rowE, ivar]
  exact ⟨⟨i + 1, by omega, l'.set q c, by simp [hl'], hw'.set q hcB, hnv, hnz, by rw [List.map_set]; rfl, by omega⟩, by omega⟩
 ·have hva : val ((limbs a).take i) = a := by rw [List.take_of_length_le (by omega)]; exact va
  rw [hva] at hv
  obtain ⟨hT, ht⟩ := row_end hl hwl (by omega) hv
  simp only [numP, lstP] at ht
  simp [f0, f5, f6, la, hlt, rowE, hl, hT, ht, mapO_au_take, mapO_au, touch_au, touch_au_take, Trm_mu, Trm_trim, numP, lstP, freeze1]
end Go.Proofs.Ytbdccebpehogjaa

/-
 The reference: a number moved up or down by binary digits.
-/
namespace Go.Proofs.Ytbdccebpehogjaa
open Go Go.Abs Go.Limbs
variable {base : Prot}
set_option maxRecDepth 20000
attribute [local irreducible] vc
attribute [local simp] pureS touchV freezeL fuel shiftV u64 au
def sRShift : List PVal → Option PVal
 | [.lst xs, .int .i64 n] => match decN xs with | some a => if -6000000 ≤ n ∧ n ≤ 6000000 then some (numP (if n < 0 then a / 2 ^ (-n).toNat else a * 2 ^ n.toNat)) else none | _ => none
 | _ => none
theorem sRShift_up {a n : Nat} (ha : len a ≤ 100000) (hn : n ≤ 6000000) : sRShift [.lst ((limbs a).map u64), .int .i64 n] = some (.lst ((limbs (a * 2 ^ n)).map u64)) := by
 simp only [sRShift, decN_num ha]
 rw [if_pos ⟨by omega, by omega⟩, if_neg (by omega)]
 rfl
def Trt : Tab := Tab.none.with 56 (pureS sTrim)
theorem Trt_ok : TabOk Try.prog base Trt := Tab.with_ok Tab.none_ok rtrim_ok
theorem Trt_mu (f : FuncId) (a : List AVal) (H : Heap) : Trt.mu f a H = none := (rfl)
theorem Trt_trim : Trt.fn 56 = pureS sTrim := (rfl)
theorem rup_loop {a m w s : Nat} {R : LExit → AFr → Heap → Prop} {fr : AFr} {H : Heap} (hla : len a ≤ 100000) (hw : w = m / 64) (hs : s = m % 64) (hm : m ≤ 6000000) (hH : H = [rowE 0 (List.replicate w 0)]) (f0 : fr 0 = .p (.lst ((limbs a).map u64)))
  (f9 : fr 9 = .own 0 0 w 0) (f10 : fr 10 = .p (.int .u64 s)) (f11 : fr 11 = .p (.int .u64 0)) (f12 : fr 12 = .p (.int .i64 0))
  (hR : ∀ (fr' : AFr) (H' : Heap) (l : List Nat) (c : Nat) (x : AVal), l.length = w + len a → Wf l → c < B → val l + B ^ (w + len a) * c = a * 2 ^ m → IsRow H' x l → fr' 9 = x → fr' 11 = .p (.int .u64 c) → R .normal fr' H') : vc Trt lf38_B1 R fr H := by
 have la : (limbs a).length = len a := rfl
 have wa := wf_limbs a
 have hs64 : s < 64 := by omega
 have hpow : 2 ^ m = B ^ w * 2 ^ s := by rw [B_pow, ← Nat.pow_add, show 64 * w + s = m by omega]
 simp only [lf38_B1, vc_block]
 refine loop_ind (fun fr H => ∃ (i : Nat) (l : List Nat) (c : Nat) (x : AVal), i ≤ len a ∧ l.length = w + i ∧ Wf l ∧ c < 2 ^ s ∧ val l + B ^ (w + i) * c = val ((limbs a).take i) * 2 ^ m ∧ IsRow H x l ∧
   fr 0 = .p (.lst ((limbs a).map u64)) ∧ fr 9 = x ∧ fr 10 = .p (.int .u64 s) ∧ fr 11 = .p (.int .u64 c) ∧ fr 12 = .p (.int .i64 i))
  (fun fr _ => len a - ivar (fr 12)) ⟨0, List.replicate w 0, 0, .own 0 0 w 0, by omega, by simp, Wf.zeros _, Nat.two_pow_pos s, by simp [val_nil, val_zeros], .inr ⟨0, 0, by simp, by rw [hH]; rfl⟩, f0, f9, f10, by rw [f11]; rfl, by rw [f12]; rfl⟩ ?_
 rintro fr H ⟨i, l, c, x, hi, hl, hwl, hc, hv, hR', f0, f9, f10, f11, f12⟩
 subst f9
 have hcB : c < B := Nat.lt_of_lt_of_le hc (by rw [← pow64]; exact Nat.pow_le_pow_right (by omega) (by omega))
 by_cases hlt : i < len a
 ·obtain ⟨y, hy⟩ : ∃ y, (limbs a)[i]? = some y := ⟨_, List.getElem?_eq_getElem (by omega)⟩
  have hyB := wa.get hy
  obtain ⟨lo, hlo⟩ : ∃ t, t = y * 2 ^ s % B := ⟨_, rfl⟩
  obtain ⟨hb, hhb⟩ : ∃ t, t = y * 2 ^ s / B := ⟨_, rfl⟩
  have hsum : c + lo < B := by rw [hlo]; exact shl_sum_lt (by omega) hc
  have hbl : hb < 2 ^ s := by rw [hhb]; exact shl_high_lt hyB
  have hloB : lo < B := by omega
  have e1 : shiftI .shl .u64 y s = some (.int .u64 lo) := by rw [shl_word (by omega), hlo]
  have e2 : shiftI .shr .u64 y ((64 - s : Nat) : Int) = some (.int .u64 hb) := by rw [shr_word (by omega), hhb, shl_high (by omega)]
  have e3 : IntKind.u64.wrap (64 - (s : Int)) = ((64 - s : Nat) : Int) := by rw [IntWalk.u64_in _ (by omega)]; omega
  have e4 := or_bits hloB hcB
  rw [show lo ||| c = c + lo by rw [Nat.or_comm, hlo]; exact or_shl (by omega) hc] at e4
  obtain ⟨D, hD⟩ : ∃ t, t = c + lo := ⟨_, rfl⟩
  rw [← hD] at e4 hsum
  have hw5 := wrap_succ (i := i) (by omega)
  obtain ⟨j, ver, H', happ, hj⟩ := app_row hR' D (by omega) ⟨1, 0, false, [.p (.int .u64 D)], 56⟩
  have hRn : IsRow H' (.own j 0 (l.length + 1) ver) (l ++ [D]) := by
   have := IsRow.own hj
   simpa using this
  have hwn : Wf (l ++ [D]) := hwl.append (Wf.cons hsum Wf.nil)
  have hnew : val (l ++ [D]) + B ^ (w + (i + 1)) * hb = val ((limbs a).take (i + 1)) * 2 ^ m := by
   rw [val_snoc, hl, val_take_succ hy, hD, hlo, hhb, ← Nat.add_assoc, Nat.pow_succ]
   refine shl_step hv ?_
   rw [hpow, Nat.pow_add]
   rw [Nat.mul_assoc, Nat.mul_comm (B ^ i), Nat.mul_assoc]
  by_cases hs0 : s = 0
  ·subst hs0
   rw [show ((0 : Nat) : Int) = 0 from rfl] at e1
   have hb0 : hb = 0 := by omega
   simp [-BitVec.toNat_or, f0, f10, f11, f12, la, hlt, getE hy, e1, e4, happ, hw5, fillS, ivar, -appV]
   rw [hb0, Nat.mul_zero, Nat.add_zero] at hnew
   exact ⟨⟨i + 1, by omega, l ++ [D], by simp; omega, hwn, hnew, _, hRn, rfl, by omega⟩, by omega⟩
  ·have hsI : (0 : Int) < s := by omega
   have hsN : 0 < s := by omega
   simp [-BitVec.toNat_or, f0, f10, f11, f12, la, hlt, getE hy, e1, e2, e3, e4, happ, hsI, hsN, hw5, fillS, ivar, -appV]
   exact ⟨⟨i + 1, by omega, l ++ [D], by simp; omega, hwn, hb, hbl, hnew, _, hRn, rfl, rfl, by omega⟩, by omega⟩
 ·obtain rfl : i = len a := by omega
  rw [List.take_of_length_le (by omega), val_limbs] at hv
  simp [f0, f12, la]
  exact hR _ H l c _ hl hwl hcB hv hR' (by simp) (by simp [f11])
theorem rshift_ok : FnOk Try.prog base 38 (pureS sRShift) := by
 refine pure_of_vc hmix Trt_ok globNone low38 fun args z hs hf => ?_
 unfold sRShift at hs
 split at hs
 case h_2 => cases hs
 rename_i xs n
 split at hs
 case h_2 => cases hs
 rename_i a ha
 split at hs
 case isFalse => cases hs
 rename_i hn
 cases hs
 obtain ⟨rfl, hla⟩ := decN_some ha
 refine ⟨by simp [lf38], ?_⟩
 have la : (limbs a).length = len a := rfl
 have wa := wf_limbs a
 by_cases hneg : n < 0
 ·obtain ⟨m, hm⟩ : ∃ m : Nat, -n = m := ⟨(-n).toNat, by omega⟩
  obtain ⟨w, hw⟩ : ∃ w, w = m / 64 := ⟨_, rfl⟩
  obtain ⟨s, hs⟩ : ∃ s, s = m % 64 := ⟨_, rfl⟩
  have hs64 : s < 64 := by omega
  have q0 : IntKind.i64.wrap (-n) = (m : Int) := by rw [IntWalk.i64_in _ (by omega), hm]
  have q1' : IntKind.i64.wrap ((m : Int) / 64) = (w : Int) := by rw [IntWalk.i64_in _ (by omega)]; omega
  have q1 : IntKind.i64.wrap ((m : Int).tdiv 64) = (w : Int) := by rw [Int.tdiv_eq_ediv_of_nonneg (by omega), q1']
  have q2 : (m : Int).tmod 64 = (s : Int) := by rw [Int.tmod_eq_emod_of_nonneg (by omega)]; omega
  have q3 : IntKind.u64.wrap (s : Int) = s := IntWalk.u64_in _ (by omega)
  have hpow : 2 ^ m = B ^ w * 2 ^ s := by rw [B_pow, ← Nat.pow_add, show 64 * w + s = m by omega]
  have hmn : (-n).toNat = m := by omega
  rw [if_pos hneg, hmn]
  by_cases hwl : len a ≤ w
  ·have hz : a / 2 ^ m = 0 := by
    refine Nat.div_eq_of_lt (Nat.lt_of_lt_of_le (lt_len a) (Nat.le_trans (Bpow_le hwl) ?_))
    rw [hpow]
    exact Nat.le_mul_of_pos_right _ (Nat.two_pow_pos s)
   rw [hz]
   simp [lf38, la, hneg, q0, q1, q1', hwl, numP, lstP, limbs_zero]
  ·obtain ⟨A, hA⟩ : ∃ A, A = (limbs a).drop w := ⟨_, rfl⟩
   have wA : Wf A := by rw [hA]; exact wa.drop _
   have hAv : val A = a / B ^ w := by rw [hA, val_drop_eq wa, val_limbs]
   have hAl : A.length = len a - w := by rw [hA]; simp [la]
   have hAA' : List.drop w (List.map u64 (limbs a)) = A.map u64 := by rw [hA, List.map_drop]
   have hAA : List.drop w (List.take (len a) (List.map u64 (limbs a))) = A.map u64 := by
    rw [List.take_of_length_le (by simp [la]), hAA']
   have hwle : w ≤ len a := by omega
   have hdiv : a / 2 ^ m = val A / 2 ^ s := by rw [hAv, Nat.div_div_eq_div_mul, ← hpow]
   have hcap := mul_capI A.length (by omega)
   rw [hdiv]
   have happ := app_num (H := [rowE 0 []]) (k := 0) (ver := 0) (out := []) (ys := A) rfl (by simp; omega)
   simp only [List.length_nil, Nat.zero_add, List.nil_append, List.set_cons_zero] at happ
   simp [rowE, -appV] at happ
   simp [lf38, la, hneg, q0, q1, q1', q2, q3, hwl, hwle, hAA, hAA', hcap, sizeOk_u64, fillS, mapO_au, touch_au, au_comp, happ, -appV]
   simp only [lf38_B0, vc_block]
   refine loop_ind (fun fr H => ∃ (i : Nat) (l : List Nat), i ≤ A.length ∧ (s = 0 → i = 0) ∧ l.length = A.length ∧ Wf l ∧ val (l.take i) = val A / 2 ^ s % B ^ i ∧ l.drop i = A.drop i ∧ H = [rowE 1 l] ∧
     fr 6 = .own 0 0 A.length 1 ∧ fr 7 = .p (.int .u64 s) ∧ fr 8 = .p (.int .i64 i))
    (fun fr _ => A.length - ivar (fr 8)) ⟨0, A, by omega, fun _ => rfl, rfl, wA, by simp [val_nil, Nat.mod_one], rfl, by simp [rowE], by simp, by simp, by simp⟩ ?_
   rintro fr H ⟨i, l, hi, hi0, hl, hwfl, hv, hdr, rfl, h6, h7, h8⟩
   by_cases hs0 : s = 0
   ·have hi0 := hi0 hs0
    subst hi0
    have hlA : l = A := by simpa using hdr
    subst hlA
    have hvl : val l = val l / 2 ^ s := by rw [hs0]; simp
    obtain ⟨hT, ht⟩ := row_end rfl hwfl (by omega) hvl
    have hsI : ¬ (0 : Int) < s := by omega
    have hsN : ¬ 0 < s := by omega
    simp only [numP, lstP] at ht
    by_cases hl0 : 0 < l.length
    ·simp [h6, h7, h8, hl0, hsI, hsN, rowE, hT, ht, mapO_au_take, mapO_au, touch_au, touch_au_take, Trt_mu, Trt_trim, numP, lstP, freeze1]
    ·omega
   ·have hsI : (0 : Int) < s := by omega
    have hsN : 0 < s := by omega
    by_cases hlt : i < A.length
    ·obtain ⟨x, hx⟩ : ∃ x, A[i]? = some x := ⟨_, List.getElem?_eq_getElem hlt⟩
     have hxB := wA.get hx
     have hil : i < l.length := by omega
     have hlx : l[i]? = some x := by
      have := congrArg (fun t => t[0]?) hdr
      simp only [List.getElem?_drop, Nat.add_zero] at this
      rw [this]; exact hx
     obtain ⟨xs, hxs⟩ : ∃ t, t = x / 2 ^ s := ⟨_, rfl⟩
     have hxsB : xs < B := by rw [hxs]; exact Nat.lt_of_le_of_lt (Nat.div_le_self _ _) hxB
     have e1 : shiftI .shr .u64 x s = some (.int .u64 xs) := by rw [shr_word (by omega), hxs]
     have hlimb := right_limb wA hx (show s ≤ 64 by omega)
     have step : ∀ t, val A / 2 ^ s / B ^ i % B = t → val ((l.set i t).take (i + 1)) = val A / 2 ^ s % B ^ (i + 1) := fun t ht => by
      rw [val_take_set hil, hv, mod_step ht]
     have hw5 := wrap_succ (i := i) (by omega)
     rw [dif_neg hs0] at hlimb
     have hdr' : ∀ t, (l.set i t).drop (i + 1) = A.drop (i + 1) := fun t => by
      rw [List.drop_set_of_lt (by omega), ← List.drop_drop, hdr, List.drop_drop]
     by_cases hlt2 : i + 1 < A.length
     ·obtain ⟨y, hy⟩ : ∃ y, A[i + 1]? = some y := ⟨_, List.getElem?_eq_getElem hlt2⟩
      have hly : l[i + 1]? = some y := by
       have := congrArg (fun t => t[1]?) hdr
       simp only [List.getElem?_drop] at this
       rw [this]; exact hy
      rw [hy] at hlimb
      simp only at hlimb
      obtain ⟨lo, hlo⟩ : ∃ t, t = y * 2 ^ (64 - s) % B := ⟨_, rfl⟩
      have hloB : lo < B := by rw [hlo]; exact Nat.mod_lt _ B_pos
      have e2 : shiftI .shl .u64 y ((64 - s : Nat) : Int) = some (.int .u64 lo) := by rw [shl_word (by omega), hlo]
      have e3 : IntKind.u64.wrap (64 - (s : Int)) = ((64 - s : Nat) : Int) := by rw [IntWalk.u64_in _ (by omega)]; omega
      have e4 := or_bits hxsB hloB
      rw [show xs ||| lo = xs + lo by rw [hxs, hlo]; exact shr_or (by omega) hxB] at e4
      obtain ⟨t, ht⟩ : ∃ t, t = xs + lo := ⟨_, rfl⟩
      rw [← ht] at e4
      have htB : t < B := by rw [← hxs, ← hlo, ← ht] at hlimb; rw [← hlimb]; exact Nat.mod_lt _ B_pos
      obtain ⟨i1, hi1⟩ : ∃ k, k = i + 1 := ⟨_, rfl⟩
      rw [← hi1] at hw5 hy hly
      have hlt3 : i1 < A.length := by omega
      have hne : ¬ i = i1 := by omega
      rw [← hxs, ← hlo, ← ht] at hlimb
      simp [h6, h7, h8, hl, hlt, hlt3, getE hlx, e1, hsI, hsN, rowE, hw5]
      rw [vc_regionW]
      refine ⟨[], ?_⟩
      simp [-BitVec.toNat_or, h6, h7, h8, hl, hlt, hlt3, getE hlx, getE hly, hne, e1, e2, e3, e4, rowE, hw5, ivar]
      exact ⟨⟨i1, by omega, fun h => absurd h hs0, l.set i t, by simp [hl], hwfl.set _ htB, by rw [hi1]; exact step _ hlimb, by rw [hi1]; exact hdr' t, by rw [List.map_set]; rfl, rfl⟩, by omega⟩
     ·have hy : A[i + 1]? = none := List.getElem?_eq_none (by omega)
      rw [hy] at hlimb
      simp only at hlimb
      rw [← hxs] at hlimb
      obtain ⟨i1, hi1⟩ : ∃ k, k = i + 1 := ⟨_, rfl⟩
      rw [← hi1] at hw5
      have hlt3 : ¬ i1 < A.length := by omega
      simp [h6, h7, h8, hl, hlt, hlt3, getE hlx, e1, hsI, hsN, rowE, hw5, ivar]
      exact ⟨⟨i1, by omega, fun h => absurd h hs0, l.set i xs, by simp [hl], hwfl.set _ hxsB, by rw [hi1]; exact step _ hlimb, by rw [hi1]; exact hdr' xs, by rw [List.map_set]; rfl, rfl⟩, by omega⟩
    ·have hil : i = A.length := by omega
     subst hil
     have hvl : val l = val A / 2 ^ s := by
      rw [List.take_of_length_le (by omega)] at hv
      rw [hv]
      exact Nat.mod_eq_of_lt (Nat.lt_of_le_of_lt (Nat.div_le_self _ _) (val_lt wA))
     obtain ⟨hT, ht⟩ := row_end hl hwfl (by omega) hvl
     simp only [numP, lstP] at ht
     simp [h6, h7, h8, hlt, hsI, hsN, rowE, hl, hT, ht, mapO_au_take, mapO_au, touch_au, touch_au_take, Trt_mu, Trt_trim, numP, lstP, freeze1]
 ·obtain ⟨m, rfl⟩ := Int.eq_ofNat_of_zero_le (a := n) (by omega)
  obtain ⟨w, hw⟩ : ∃ w, w = m / 64 := ⟨_, rfl⟩
  obtain ⟨s, hs⟩ : ∃ s, s = m % 64 := ⟨_, rfl⟩
  have hs64 : s < 64 := by omega
  have q1' : IntKind.i64.wrap ((m : Int) / 64) = (w : Int) := by rw [IntWalk.i64_in _ (by omega)]; omega
  have q1 : IntKind.i64.wrap ((m : Int).tdiv 64) = (w : Int) := by rw [Int.tdiv_eq_ediv_of_nonneg (by omega), q1']
  have q2 : (m : Int).tmod 64 = (s : Int) := by rw [Int.tmod_eq_emod_of_nonneg (by omega)]; omega
  have q2' : (m : Int) % 64 = (s : Int) := by omega
  have q3 : IntKind.u64.wrap (s : Int) = s := IntWalk.u64_in _ (by omega)
  have hpow : 2 ^ m = B ^ w * 2 ^ s := by rw [B_pow, ← Nat.pow_add, show 64 * w + s = m by omega]
  have hcap := mul_capI w (by omega)
  rw [if_neg hneg, Int.toNat_natCast]
  simp [lf38, la, hneg, q1, q1', q2, q2', q3, hcap]
  refine rup_loop (a := a) (m := m) (w := w) (s := s) hla hw hs (by omega) (by simp [rowE]) (by simp) (by simp) (by simp) (by simp) (by simp) ?_
  intro fr' H l c x hl hwl hcB hv hR f9 f11
  subst f9
  have hwn : Wf (l ++ [c]) := hwl.append (Wf.cons hcB Wf.nil)
  have hvl : val (l ++ [c]) = a * 2 ^ m := by rw [val_snoc, hl]; exact hv
  have ht := sTrim_map hwn (by simp; omega)
  rw [hvl] at ht
  obtain ⟨j, ver, H', happ, hj⟩ := app_row hR c (by omega) ⟨1, 0, false, [.p (.int .u64 c)], 56⟩
  obtain ⟨L, hL⟩ : ∃ t, t = l ++ [c] := ⟨_, rfl⟩
  have hLl : l.length + 1 = L.length := by rw [hL]; simp
  rw [← hL] at ht hj
  rw [hLl] at happ
  have htk : List.take L.length (L.map u64) = L.map u64 := List.take_of_length_le (by simp)
  unfold rowE at hj
  simp [f11, happ, fillS, -appV]
  simp [hj, ht, htk, mapO_au, touch_au, mapO_au_take, touch_au_take, Trt_mu, Trt_trim, numP, lstP]
end Go.Proofs.Ytbdccebpehogjaa

/-
 The reference's answers for sums, differences, products and the order.
-/
namespace Go.Proofs.Ytbdccebpehogjaa
open Go Go.Abs Go.Limbs
variable {base : Prot}
set_option maxRecDepth 20000
attribute [local irreducible] vc
attribute [local simp] pureS touchV freezeL fuel shiftV u64 au
end Go.Proofs.Ytbdccebpehogjaa

/-
 The reference: division by binary digits; the greatest common divisor.
-/
namespace Go.Proofs.Ytbdccebpehogjaa
open Go Go.Abs Go.Limbs
variable {base : Prot}
set_option maxRecDepth 20000
attribute [local irreducible] vc
attribute [local simp] pureS touchV freezeL fuel shiftV u64 au
def sQuotR : List PVal → Option PVal
 | [.lst xs, .lst ys] => match decN xs, decN ys with | some a, some b => if b = 0 ∨ 90000 < len a then none else some (.tup [numP (a / b), numP (a % b)]) | _, _ => none
 | _ => none
theorem sQuotR_num {a b : Nat} (ha : len a ≤ 90000) (hb : len b ≤ 100000) (h0 : b ≠ 0) : sQuotR [.lst ((limbs a).map u64), .lst ((limbs b).map u64)] = some (.tup [.lst ((limbs (a / b)).map u64), .lst ((limbs (a % b)).map u64)]) := by
 simp only [sQuotR, decN_num (show len a ≤ 100000 by omega), decN_num hb]
 rw [if_neg (by rintro (h | h); exact h0 h; omega)]; rfl
def Tdv : Tab := ((((Tab.none.with 46 (pureS sOrder)).with 89 (pureS sMinus)).with 38 (pureS sRShift)).with 56 (pureS sTrim)).with 75 (pureS sSize)
theorem Tdv_ok : TabOk Try.prog base Tdv := Tab.with_ok (Tab.with_ok (Tab.with_ok (Tab.with_ok (Tab.with_ok Tab.none_ok rcmp_ok) rsub_ok) rshift_ok) rtrim_ok) rbits_ok
theorem Tdv_mu (f : FuncId) (a : List AVal) (H : Heap) : Tdv.mu f a H = none := (rfl)
theorem Tdv_fns : Tdv.fn 46 = pureS sOrder ∧ Tdv.fn 89 = pureS sMinus ∧ Tdv.fn 38 = pureS sRShift ∧ Tdv.fn 56 = pureS sTrim ∧ Tdv.fn 75 = pureS sSize := ⟨rfl, rfl, rfl, rfl, rfl⟩
theorem bit_or {o t y : Nat} (ho : o = 2 ^ (t + 1) * y) : o ||| 2 ^ t = o + 2 ^ t := by
 rw [Nat.or_comm, ho, Nat.mul_comm (2 ^ (t + 1)) y, or_low (Nat.pow_lt_pow_right (by omega) (by omega)), Nat.add_comm]
theorem bit_limb {V Q w t : Nat} (ht : t < 64) (h : V = 2 ^ (64 * w + t + 1) * Q) : ∃ y, V / B ^ w % B = 2 ^ (t + 1) * y ∧ 2 ^ (t + 1) * y + 2 ^ t < B := by
 have e : V = B ^ w * (2 ^ (t + 1) * Q) := by rw [h, B_pow, ← Nat.mul_assoc, ← Nat.pow_add, Nat.add_assoc]
 have h2 : B = 2 ^ (t + 1) * 2 ^ (63 - t) := by rw [← Nat.pow_add, show t + 1 + (63 - t) = 64 by omega, pow64]
 refine ⟨Q % 2 ^ (63 - t), ?_, ?_⟩
 ·rw [e, Nat.mul_div_cancel_left _ (Bpow_pos w), h2, Nat.mul_mod_mul_left]
 ·have h3 : Q % 2 ^ (63 - t) + 1 ≤ 2 ^ (63 - t) := Nat.mod_lt _ (Nat.two_pow_pos _)
  have h4 := Nat.mul_le_mul_left (2 ^ (t + 1)) h3
  rw [← h2, Nat.mul_add, Nat.mul_one] at h4
  have h5 : 2 ^ t < 2 ^ (t + 1) := Nat.pow_lt_pow_right (by omega) (by omega)
  omega
theorem rdiv_ok : FnOk Try.prog base 69 (pureS sQuotR) := by
 refine pure_of_vc hmix Tdv_ok globNone low69 fun args z hs hf => ?_
 unfold sQuotR at hs
 split at hs
 case h_2 => cases hs
 rename_i xs ys
 split at hs
 case h_2 => cases hs
 rename_i a b ha hb
 split at hs
 case isTrue => cases hs
 rename_i hc
 cases hs
 have hb0 : b ≠ 0 := fun e => hc (.inl e)
 have hla' : len a ≤ 90000 := by omega
 obtain ⟨rfl, hla⟩ := decN_some ha
 obtain ⟨rfl, hlb⟩ := decN_some hb
 refine ⟨by simp [lf69], ?_⟩
 have la : (limbs a).length = len a := rfl
 have hO := sOrder_num hla hlb
 by_cases hab : a < b
 ·rw [cmpI_lt hab] at hO
  simp [lf69, hO, Nat.div_eq_of_lt hab, Nat.mod_eq_of_lt hab, limbs_zero, Tdv_mu, Tdv_fns, numP, lstP]
 ·have hcn : ¬ cmpI a b < 0 := fun h => by have := cmpI_neg.1 h; omega
  obtain ⟨c, hcc⟩ : ∃ t, t = cmpI a b := ⟨_, rfl⟩
  rw [← hcc] at hO hcn
  have hba : b ≤ a := by omega
  have h1 := sSize_num hla
  have h2 := sSize_num hlb
  have hsz := size_mono hba
  have sa : size a ≤ 64 * len a := by rw [size_le_iff, ← B_pow]; exact lt_len a
  obtain ⟨K, hK⟩ : ∃ K, size a = size b + K := ⟨size a - size b, by omega⟩
  have w1 : IntKind.i64.wrap ((size a : Int) - size b) = ((K + 1 : Nat) : Int) - 1 := by rw [IntWalk.i64_in _ (by omega)]; omega
  have hcap := mul_capI (len a) (by omega)
  have hbs : a < b * 2 ^ (K + 1) := by
   refine Nat.lt_of_lt_of_le (lt_size a) ?_
   have h3 := size_le hb0
   have h4 := size_pos hb0
   rw [hK, show size b + K = size b - 1 + (K + 1) by omega, Nat.pow_add]
   exact Nat.mul_le_mul_right _ h3
  simp [lf69, la, hO, hcn, h1, h2, w1, hcap, Tdv_mu, Tdv_fns]
  simp only [lf69_B0, vc_block]
  refine loop_ind (fun fr H => ∃ (c r Q : Nat) (ql : List Nat), c ≤ K + 1 ∧ r < b * 2 ^ c ∧ a = r + b * 2 ^ c * Q ∧ ql.length = len a ∧ Wf ql ∧ val ql = 2 ^ c * Q ∧ H = [rowE 0 ql] ∧
    fr 1 = .p (.lst ((limbs b).map u64)) ∧ fr 6 = .own 0 0 (len a) 0 ∧ fr 7 = .p (.lst ((limbs r).map u64)) ∧ fr 8 = .p (.int .i64 ((c : Int) - 1)))
   (fun fr _ => dvar (fr 8)) ⟨K + 1, a, 0, List.replicate (len a) 0, by omega, hbs, by omega, by simp, Wf.zeros _, by rw [val_zeros]; simp, by simp [rowE], by simp, by simp, by simp, by simp⟩ ?_
  rintro fr H ⟨c, r, Q, ql, hcK, hr, hA, hql, hwq, hqv, rfl, f1, f6, f7, f8⟩
  by_cases hc0 : 0 < c
  ·obtain ⟨k, rfl⟩ : ∃ m, c = m + 1 := ⟨c - 1, by omega⟩
   have e8 : (((k + 1 : Nat) : Int) - 1) = (k : Int) := by omega
   rw [e8] at f8
   have hra : r ≤ a := by rw [hA]; exact Nat.le_add_right _ _
   have hlr : len r ≤ 100000 := Nat.le_trans (len_mono hra) hla
   obtain ⟨s, hs⟩ : ∃ t, t = b * 2 ^ k := ⟨_, rfl⟩
   have hsh := sRShift_up (a := b) (n := k) hlb (by omega)
   rw [← hs] at hsh
   have hls : len s ≤ 100000 := by
    refine Nat.le_trans (len_le (k := len a) ?_) hla
    rw [hs, B_pow]
    refine Nat.lt_of_lt_of_le (m := 2 ^ (size b + k)) ?_ (Nat.pow_le_pow_right (by omega) (by omega))
    rw [Nat.pow_add]
    exact Nat.mul_lt_mul_of_pos_right (lt_size b) (Nat.two_pow_pos k)
   have hO2 := sOrder_num hlr hls
   obtain ⟨w, hw⟩ : ∃ w, w = k / 64 := ⟨_, rfl⟩
   obtain ⟨t, ht⟩ : ∃ t, t = k % 64 := ⟨_, rfl⟩
   have hkw : k = 64 * w + t := by omega
   have ht64 : t < 64 := by omega
   have q1' : IntKind.i64.wrap ((k : Int) / 64) = (w : Int) := by rw [IntWalk.i64_in _ (by omega)]; omega
   have q1 : IntKind.i64.wrap ((k : Int).tdiv 64) = (w : Int) := by rw [Int.tdiv_eq_ediv_of_nonneg (by omega), q1']
   have q2 : (k : Int).tmod 64 = (t : Int) := by rw [Int.tmod_eq_emod_of_nonneg (by omega)]; omega
   have q2' : (k : Int) % 64 = (t : Int) := by omega
   have q3 : IntKind.u64.wrap (t : Int) = t := IntWalk.u64_in _ (by omega)
   have w7 : IntKind.i64.wrap ((k : Int) - 1) = (k : Int) - 1 := IntWalk.i64_in _ (by omega)
   have hsb := size_pos hb0
   have hwl : w < len a := by omega
   obtain ⟨o, ho⟩ : ∃ o, ql[w]? = some o := ⟨_, List.getElem?_eq_getElem (by omega)⟩
   have hoB := hwq.get ho
   have hov : o = val ql / B ^ w % B := by rw [← val_drop_eq hwq, val_drop ho, Nat.add_mul_mod_self_left, Nat.mod_eq_of_lt hoB]
   obtain ⟨y, hy, hyB⟩ := bit_limb ht64 (show val ql = 2 ^ (64 * w + t + 1) * Q by rw [hqv, hkw])
   rw [← hov] at hy
   rw [← hy] at hyB
   have hor := bit_or hy
   have htB : 2 ^ t < B := by omega
   have e1 : shiftI .shl .u64 1 t = some (.int .u64 (2 ^ t : Nat)) := by
    have := shl_word (x := 1) (s := t) (by omega)
    rw [Nat.one_mul, Nat.mod_eq_of_lt htB] at this
    exact this
   have e4 := or_bits hoB htB
   rw [hor] at e4
   obtain ⟨o2, ho2⟩ : ∃ t', t' = o + 2 ^ t := ⟨_, rfl⟩
   obtain ⟨tt, htt⟩ : ∃ t', t' = 2 ^ t := ⟨_, rfl⟩
   rw [← ho2] at e4 hyB
   rw [← htt] at e1 e4
   have hset := val_set o2 ho
   have hb1 := bin_step (A := a) (r := r) (b := b) (P := 2 ^ k) (q := Q) (by rw [← Nat.pow_succ]; exact hA) (by rw [← Nat.pow_succ]; exact hr)
   rw [← hs] at hb1
   by_cases hle : s ≤ r
   ·obtain ⟨g1, g2⟩ := hb1.1 hle
    have hcn : ¬ cmpI r s < 0 := fun h => by have := cmpI_neg.1 h; omega
    have hcp : (0 : Int) ≤ cmpI r s := by omega
    obtain ⟨cc, hcc⟩ : ∃ t, t = cmpI r s := ⟨_, rfl⟩
    rw [← hcc] at hO2 hcp
    have hM := sMinus_num hlr hls hle
    obtain ⟨r2, hr2⟩ : ∃ t, t = r - s := ⟨_, rfl⟩
    rw [← hr2] at hM g1 g2
    have hnv : val (ql.set w o2) = 2 ^ k * (1 + 2 * Q) := by
     have e2 : B ^ w * 2 ^ t = 2 ^ k := by rw [B_pow, ← Nat.pow_add, hkw]
     have e3 : B ^ w * o2 = B ^ w * o + 2 ^ k := by rw [ho2, Nat.mul_add, e2]
     have e5 : 2 ^ k * (1 + 2 * Q) = 2 ^ k + 2 ^ (k + 1) * Q := by rw [Nat.mul_add, Nat.mul_one, Nat.pow_succ, Nat.mul_assoc]
     rw [e5, ← hqv]
     omega
    simp [-BitVec.toNat_or, f1, f6, f7, f8, hsh, hO2, hcp, hM, q1, q1', q2, q2', q3, w7, hwl, ho, hql, getE ho, e1, e4, rowE, dvar, Tdv_mu, Tdv_fns]
    exact ⟨k, by omega, r2, by rw [← hs]; exact g2, 1 + 2 * Q, by rw [← hs]; exact g1, ql.set w o2, by simp [hql], hwq.set _ hyB, hnv, by rw [List.map_set]; rfl, rfl, rfl⟩
   ·obtain ⟨g1, g2⟩ := hb1.2 hle
    have hcn : cmpI r s = -1 := cmpI_lt (by omega)
    rw [hcn] at hO2
    simp [f1, f6, f7, f8, hsh, hO2, w7, rowE, dvar, Tdv_mu, Tdv_fns]
    exact ⟨k, by omega, r, by rw [← hs]; exact g2, 2 * Q, by rw [← hs]; exact g1, ql, hql, hwq, by rw [hqv, Nat.pow_succ, Nat.mul_assoc], rfl, rfl, rfl⟩
  ·have : c = 0 := by omega
   subst this
   rw [Nat.pow_zero, Nat.mul_one] at hr hA
   rw [Nat.pow_zero, Nat.one_mul] at hqv
   obtain ⟨e1, e2⟩ := div_done (a := a) (k := b) (q := Q) (r := r) (by omega) hr
   rw [← e1, ← e2]
   obtain ⟨hT, ht⟩ := row_end hql hwq (by omega) hqv
   simp only [numP, lstP] at ht
   simp [f6, f7, f8, rowE, hql, hT, ht, mapO_au_take, mapO_au, touch_au, touch_au_take, Tdv_mu, Tdv_fns, freeze1, numP, lstP]
def Trg : Tab := Tab.none.with 69 (pureS sQuotR)
theorem Trg_ok : TabOk Try.prog base Trg := Tab.with_ok Tab.none_ok rdiv_ok
theorem Trg_mu (f : FuncId) (a : List AVal) (H : Heap) : Trg.mu f a H = none := (rfl)
theorem Trg_fn : Trg.fn 69 = pureS sQuotR := (rfl)
def sGcdR : List PVal → Option PVal
 | [.lst xs, .lst ys] => match decN xs, decN ys with | some a, some b => if len a ≤ 90000 ∧ len b ≤ 90000 then some (numP (Nat.gcd a b)) else none | _, _ => none
 | _ => none
theorem sGcdR_num {a b : Nat} (ha : len a ≤ 90000) (hb : len b ≤ 90000) : sGcdR [.lst ((limbs a).map u64), .lst ((limbs b).map u64)] = some (.lst ((limbs (Nat.gcd a b)).map u64)) := by
 simp only [sGcdR, decN_num (show len a ≤ 100000 by omega), decN_num (show len b ≤ 100000 by omega)]
 rw [if_pos ⟨ha, hb⟩]; rfl
theorem rgcd_ok : FnOk Try.prog base 47 (pureS sGcdR) := by
 refine pure_of_vc hmix Trg_ok globNone low47 fun args z hs hf => ?_
 unfold sGcdR at hs
 split at hs
 case h_2 => cases hs
 rename_i xs ys
 split at hs
 case h_2 => cases hs
 rename_i a b ha hb
 split at hs
 case isFalse => cases hs
 rename_i hc
 obtain ⟨ca, cb⟩ := hc
 cases hs
 obtain ⟨rfl, hla⟩ := decN_some ha
 obtain ⟨rfl, hlb⟩ := decN_some hb
 refine ⟨by simp [lf47], ?_⟩
 obtain ⟨G, hG⟩ : ∃ t, t = Nat.gcd a b := ⟨_, rfl⟩
 rw [← hG]
 simp [lf47]
 simp only [lf47_B0, vc_block]
 refine loop_ind (fun fr H => ∃ m n : Nat, len m ≤ 90000 ∧ len n ≤ 90000 ∧ Nat.gcd m n = G ∧ H = [] ∧ fr 0 = .p (.lst ((limbs m).map u64)) ∧ fr 1 = .p (.lst ((limbs n).map u64)))
  (fun fr _ => match fr 1 with | .p (.lst es) => (match decN es with | some n => n | none => 0) | _ => 0) ⟨a, b, ca, cb, hG.symm, rfl, by simp, by simp⟩ ?_
 rintro fr H ⟨m, n, hm, hn, hg, rfl, h0, h1⟩
 have ln : (limbs n).length = len n := rfl
 by_cases hz : n = 0
 ·subst hz
  rw [Nat.gcd_zero_right] at hg
  subst hg
  simp [h0, h1, limbs_zero, Trg_mu, numP, lstP]
 ·have hln : len n ≠ 0 := fun e => hz (len_eq_zero.1 e)
  have hlI : (0 : Int) < len n := by omega
  have hlN : 0 < len n := by omega
  have hq := sQuotR_num hm (show len n ≤ 100000 by omega) hz
  have hr : len (m % n) ≤ 90000 := Nat.le_trans (len_mono (Nat.le_of_lt (Nat.mod_lt _ (Nat.pos_of_ne_zero hz)))) hn
  have hd1 := decN_num (show len n ≤ 100000 by omega)
  have hd2 := decN_num (show len (m % n) ≤ 100000 by omega)
  obtain ⟨r, hrr⟩ : ∃ t, t = m % n := ⟨_, rfl⟩
  rw [← hrr] at hq hr hd2
  simp [h0, h1, ln, hlI, hlN, hq, hd1, hd2, Trg_mu, Trg_fn]
  refine ⟨⟨n, hn, r, hr, ?_, rfl, rfl⟩, by rw [hrr]; exact Nat.mod_lt _ (Nat.pos_of_ne_zero hz)⟩
  rw [hrr, Nat.gcd_comm, ← Nat.gcd_rec, Nat.gcd_comm]
  exact hg
end Go.Proofs.Ytbdccebpehogjaa
