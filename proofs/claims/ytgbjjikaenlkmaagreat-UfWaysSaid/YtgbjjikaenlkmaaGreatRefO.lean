/-
  What the reference's functions of sums, differences, products and the order compute, for at most 100000 limbs.
-/
import Derived.Test.YtgbjjikaenlkmaaGreatRefJ
import Derived.Test.YtgbjjikaenlkmaaGreatNatE
set_option linter.unusedSimpArgs false
set_option linter.unnecessarySimpa false
set_option linter.unusedVariables false
set_option linter.constructorNameAsVariable false

/-
 The reference: rows of limbs without zeros at the end, their order, what is a number, sizes.
-/
namespace Go.Proofs.YtgbjjikaenlkmaaGreat
open Go Go.Abs Go.Limbs
variable {base : Prot}
set_option maxRecDepth 20000
attribute [local irreducible] vc
attribute [local simp] pureS touchV freezeL fuel shiftV u64 au
theorem au_comp : AVal.p ∘ u64 = au := rfl
theorem au_cells (ys : List Nat) : (ys.map au).all (fun y => y.cells.length == 1 && y.cells.all AVal.isCell) = true := by
 rw [List.all_eq_true]
 intro x hx
 obtain ⟨y, _, rfl⟩ := List.mem_map.1 hx
 rfl
theorem app_num {H : Heap} {k ver : Nat} {out ys : List Nat} (hk : H[k]? = some (rowE ver out)) (hn : out.length + ys.length ≤ 1000000) :
  appV 1 8 147 (.own k 0 out.length ver) (ys.map au) H = some (.own k 0 (out.length + ys.length) (ver + 1), H.set k (rowE (ver + 1) (out ++ ys))) := by
 have hm : maxLen = 9223372036854775807 := rfl
 unfold appV
 rw [if_pos ⟨au_cells ys, by decide⟩]
 simp only
 rw [hk]
 simp only [rowE]
 rw [if_pos (by simp; omega)]
 simp
theorem app_nil {H : Heap} {ys : List Nat} (hn : ys.length ≤ 1000000) :
  appV 1 8 147 (.tight []) (ys.map au) H = some (.own H.length 0 ys.length 0, H ++ [rowE 0 ys]) := by
 have hm : maxLen = 9223372036854775807 := rfl
 unfold appV
 rw [if_pos ⟨au_cells ys, by decide⟩]
 simp only
 rw [if_pos (by simp; omega)]
 simp [rowE]
theorem rtrim_ok : FnOk Tryz.prog base 66 (pureS sTrim) := by
 refine pure_of_vc hmix Tab.none_ok globNone low66 fun args z hs hf => ?_
 unfold sTrim at hs
 split at hs
 case h_2 => cases hs
 rename_i es
 split at hs
 case h_2 => cases hs
 rename_i l hd
 split at hs
 case isFalse => cases hs
 rename_i hl
 obtain ⟨rfl, hw⟩ := decU_some hd
 cases hs
 refine ⟨by simp [lf66], ?_⟩
 simp [lf66]
 simp only [lf66_B0, vc_block]
 refine loop_ind (fun fr H => ∃ n : Nat, H = [] ∧ n ≤ l.length ∧ val (l.take n) = val l ∧ fr 0 = .p (.lst (l.map u64)) ∧ fr 3 = .p (.int .i64 n)) (fun fr _ => ivar (fr 3)) ⟨l.length, rfl, by omega, by simp, by simp, by simp⟩ ?_
 rintro fr H ⟨n, rfl, hn, hv, h0, h3⟩
 have hcap := mul_capI n (by omega)
 have hnI : (n : Int) ≤ l.length := by omega
 by_cases h : 0 < n
 ·have hI : (0 : Int) < n := by omega
  obtain ⟨x, hx⟩ : ∃ x, l[n - 1]? = some x := ⟨_, List.getElem?_eq_getElem (by omega)⟩
  obtain ⟨n1, hn1⟩ : ∃ t, t = n - 1 := ⟨_, rfl⟩
  rw [← hn1] at hx
  have hw1 : IntKind.i64.wrap ((n : Int) - 1) = (n1 : Int) := by rw [IntWalk.i64_in _ (by omega)]; omega
  have hlt : n1 < l.length := by omega
  by_cases hz : x = 0
  ·subst hz
   simp [h0, h3, hI, h, hw1, hx, getE hx, ivar]
   refine ⟨⟨n1, by omega, ?_, rfl⟩, by omega⟩
   have := trim_step (a := l) (n := n1) hx
   rw [show n1 + 1 = n by omega] at this
   rw [← this, hv]
  ·have hb : ((x : Int) == 0) = false := beq_false_of_ne (by omega)
   have hres : numP (val l) = .lst ((l.take n).map u64) := by
    rw [trim_done (a := l) (n := n) hw hv (.inr ⟨x, by rw [← hn1]; exact hx, hz⟩)]; rfl
   have hln : (l.take n).length = n := by rw [List.length_take]; omega
   have happ := app_num (H := [rowE 0 []]) (k := 0) (ver := 0) (out := []) (ys := l.take n) rfl (by simp; omega)
   rw [hln] at happ
   simp only [List.map_take, List.length_nil, Nat.zero_add, List.nil_append, List.set_cons_zero] at happ
   simp [rowE, au_comp, -appV] at happ
   simp [h0, h3, hI, h, hw1, hx, getE hx, hb, hres, hcap, hnI, fillS, mapO_au, touch_au, au_comp, happ, -appV]
   refine ⟨by rw [Nat.min_eq_left hn]; exact Nat.le_refl _, ?_⟩
   rw [List.take_take, Nat.min_self, mapO_au_take]
 ·have hn0 : n = 0 := by omega
  subst hn0
  have hz : val l = 0 := by rw [← hv]; rfl
  simp [h0, h3, hz, numP, lstP, limbs_zero, fillS]
theorem rvalid_ok : FnOk Tryz.prog base 102 (pureS sValid) := by
 refine pure_of_vc hmix Tab.none_ok globNone low102 fun args z hs hf => ?_
 unfold sValid at hs
 split at hs
 case h_2 => cases hs
 rename_i es
 split at hs
 case h_2 => cases hs
 rename_i l hd
 obtain ⟨rfl, hw⟩ := decU_some hd
 cases hs
 refine ⟨by simp [lf102], ?_⟩
 have hc := canon_last hw
 by_cases h1 : (l.length : Int) ≤ 64
 ·have h1' : l.length ≤ 64 := by omega
  by_cases h0 : l.length = 0
  ·have : l = [] := List.length_eq_zero_iff.1 h0
   subst this
   simp [lf102, val_nil, limbs_zero]
  ·have hw1 := wrap_pred (i := l.length) (by omega) (by omega)
   obtain ⟨x, hx⟩ : ∃ x, l[l.length - 1]? = some x := ⟨_, List.getElem?_eq_getElem (by omega)⟩
   have hb2 : ((l.length : Int) == 0) = false := beq_false_of_ne (by omega)
   have hlast : l.getLast? = some x := by rw [List.getLast?_eq_getElem?]; exact hx
   rw [hlast] at hc
   by_cases hz : x = 0
   ·subst hz
    have hne : ¬ limbs (val l) = l := fun e => hc.1 e rfl
    have hb : ((0 : Int) != 0) = false := rfl
    simp [lf102, h1, h1', hw1, hx, hb, hb2, hne]
   ·have hb : ((x : Int) != 0) = true := by simp; omega
    have heq : limbs (val l) = l := hc.2 (fun e => hz (by simpa using e))
    simp [lf102, h1, h1', hw1, hx, hb, hb2, heq]
 ·have h1' : ¬ l.length ≤ 64 := by omega
  simp [lf102, h1, h1']
theorem rcmp_ok : FnOk Tryz.prog base 120 (pureS sOrder) := by
 refine pure_of_vc hmix Tab.none_ok globNone low120 fun args z hs hf => ?_
 unfold sOrder at hs
 split at hs
 case h_2 => cases hs
 rename_i xs ys
 split at hs
 case h_2 => cases hs
 rename_i a b ha hb
 cases hs
 obtain ⟨rfl, hla⟩ := decN_some ha
 obtain ⟨rfl, hlb⟩ := decN_some hb
 refine ⟨by simp [lf120], ?_⟩
 have wa := wf_limbs a
 have wb := wf_limbs b
 have va := val_limbs a
 have vb := val_limbs b
 have la : len a = (limbs a).length := rfl
 have lb : len b = (limbs b).length := rfl
 by_cases h : (limbs a).length = (limbs b).length
 ·have hbn : (((limbs a).length : Int) != ((limbs b).length : Int)) = false := by simp [h]
  simp [lf120, hbn]
  simp only [lf120_B0, vc_block]
  refine loop_ind (fun fr H => ∃ n : Nat, n ≤ (limbs a).length ∧ (limbs a).drop n = (limbs b).drop n ∧ fr 0 = .p (.lst ((limbs a).map u64)) ∧ fr 1 = .p (.lst ((limbs b).map u64)) ∧ fr 5 = .p (.int .i64 ((n : Int) - 1)))
   (fun fr _ => dvar (fr 5)) ⟨(limbs a).length, by omega, by rw [List.drop_length, h, List.drop_length], by simp, by simp, ?_⟩ ?_
  ·simp [IntWalk.i64_in ((limbs a).length - 1) (by omega)]
  rintro fr H ⟨n, hn, hd, h0, h1, h5⟩
  by_cases hn0 : 0 < n
  ·obtain ⟨m, rfl⟩ : ∃ m, n = m + 1 := ⟨n - 1, by omega⟩
   have e5 : (((m + 1 : Nat) : Int) - 1) = (m : Int) := by omega
   rw [e5] at h5
   obtain ⟨x, hx⟩ : ∃ x, (limbs a)[m]? = some x := ⟨_, List.getElem?_eq_getElem (by omega)⟩
   obtain ⟨y, hy⟩ : ∃ y, (limbs b)[m]? = some y := ⟨_, List.getElem?_eq_getElem (by omega)⟩
   have hmb : m < (limbs b).length := by omega
   have hma : m < (limbs a).length := by omega
   by_cases hxy : x = y
   ·subst hxy
    have hw : IntKind.i64.wrap ((m : Int) - 1) = (m : Int) - 1 := IntWalk.i64_in _ (by omega)
    simp [h0, h1, h5, hx, hy, getE hx, getE hy, hma, hmb, hw, dvar]
    exact ⟨m, by omega, by rw [drop_get hx, drop_get hy, hd], rfl⟩
   ·have hc : cmpI a b = cmpI x y := by
     have := cmpI_first wa wb hd hx hy hxy
     rwa [va, vb] at this
    by_cases hlt : x < y
    ·have hc2 : cmpI x y = -1 := cmpI_lt hlt
     have hltI : (x : Int) < y := by omega
     simp [h0, h1, h5, hx, hy, getE hx, getE hy, hma, hmb, hlt, hc, hc2]
    ·have hgt : y < x := by omega
     have hc2 : cmpI x y = 1 := cmpI_gt hgt
     simp [h0, h1, h5, hx, hy, getE hx, getE hy, hma, hmb, hlt, hgt, hc, hc2]
  ·have : n = 0 := by omega
   subst this
   have e : a = b := by
    rw [List.drop_zero, List.drop_zero] at hd
    rw [← va, ← vb, hd]
   subst e
   simp [h5, cmpI_eq]
 ·have hbn : (((limbs a).length : Int) != ((limbs b).length : Int)) = true := by simp; omega
  by_cases h1 : (limbs a).length < (limbs b).length
  ·have hc : cmpI a b = -1 := cmpI_lt (lt_of_len h1)
   simp [lf120, hbn, h1, hc]
  ·have h2 : (limbs b).length < (limbs a).length := by omega
   have hc : cmpI a b = 1 := cmpI_gt (lt_of_len h2)
   simp [lf120, hbn, h1, hc]
def Tb64 : Tab := Tab.none.with 100 (pureS sLen64)
theorem Tb64_ok : TabOk Tryz.prog base Tb64 := Tab.with_ok Tab.none_ok len64_ok
theorem Tb64_mu (f : FuncId) (a : List AVal) (H : Heap) : Tb64.mu f a H = none := (rfl)
theorem Tb64_len : Tb64.fn 100 = pureS sLen64 := (rfl)
theorem rbits_ok : FnOk Tryz.prog base 132 (pureS sSize) := by
 refine pure_of_vc hmix Tb64_ok globNone low132 fun args z hs hf => ?_
 unfold sSize at hs
 split at hs
 case h_2 => cases hs
 rename_i xs
 split at hs
 case h_2 => cases hs
 rename_i a ha
 cases hs
 obtain ⟨rfl, hla⟩ := decN_some ha
 refine ⟨by simp [lf132], ?_⟩
 have la : (limbs a).length = len a := rfl
 by_cases h : a = 0
 ·subst h
  simp [lf132, limbs_zero, size_zero]
 ·have hl : len a ≠ 0 := fun e => h (len_eq_zero.1 e)
  have hb : ((len a : Int) == 0) = false := beq_false_of_ne (by omega)
  obtain ⟨n1, hn1⟩ : ∃ t, t = len a - 1 := ⟨_, rfl⟩
  obtain ⟨x, hx⟩ : ∃ x, (limbs a)[len a - 1]? = some x := ⟨_, List.getElem?_eq_getElem (by omega)⟩
  have hxB := (wf_limbs a).get hx
  have hsz := size_top h hx
  rw [← hn1] at hx hsz
  have h64 := size64 hxB
  have w1 : IntKind.i64.wrap ((len a : Int) - 1) = (n1 : Int) := by rw [IntWalk.i64_in _ (by omega)]; omega
  obtain ⟨p, hp⟩ : ∃ t, t = 64 * n1 := ⟨_, rfl⟩
  have w2 : IntKind.i64.wrap (64 * (n1 : Int)) = (p : Int) := by rw [IntWalk.i64_in _ (by omega)]; omega
  have w3 : IntKind.i64.wrap ((p : Int) + size x) = (size a : Int) := by rw [IntWalk.i64_in _ (by omega)]; omega
  have hL := sLen64_nat hxB
  simp [lf132, la, hb, w1, w2, w3, hL, hx, getE hx, Tb64_mu, Tb64_len]
end Go.Proofs.YtgbjjikaenlkmaaGreat

/-
 The reference: sums and differences.
-/
namespace Go.Proofs.YtgbjjikaenlkmaaGreat
open Go Go.Abs Go.Limbs
variable {base : Prot}
set_option maxRecDepth 20000
attribute [local irreducible] vc
attribute [local simp] pureS touchV freezeL fuel shiftV u64 au
def IsRow (H : Heap) (x : AVal) (l : List Nat) : Prop := (l = [] ∧ x = .tight []) ∨ ∃ j ver, x = .own j 0 l.length ver ∧ H[j]? = some (rowE ver l)
theorem app_row {H : Heap} {x : AVal} {l : List Nat} (h : IsRow H x l) (y : Nat) (hn : l.length + 1 ≤ 1000000) (g : Ent) :
  ∃ j ver H', appV 1 8 147 x [.p (.int .u64 y)] (H ++ [g]) = some (.own j 0 (l.length + 1) ver, H') ∧ H'[j]? = some (rowE ver (l ++ [y])) := by
 rcases h with ⟨rfl, rfl⟩ | ⟨j, ver, rfl, hj⟩
 ·refine ⟨_, _, _, app_nil (H := H ++ [g]) (ys := [y]) (by simp), ?_⟩
  rw [List.getElem?_append_right (Nat.le_refl _), Nat.sub_self]; rfl
 ·have hjl := (List.getElem?_eq_some_iff.1 hj).1
  have hj' : (H ++ [g])[j]? = some (rowE ver l) := by rw [List.getElem?_append_left hjl]; exact hj
  exact ⟨_, _, _, app_num (ys := [y]) hj' (by simpa using hn), by rw [List.getElem?_set_self (by simp; omega)]⟩
theorem IsRow.own {H : Heap} {j ver : Nat} {l : List Nat} (h : H[j]? = some (rowE ver l)) : IsRow H (.own j 0 l.length ver) l := .inr ⟨j, ver, rfl, h⟩
theorem limb_at {a : List Nat} (ha : Wf a) (i : Nat) : ∃ x, x < B ∧ val (a.take (i + 1)) = val (a.take i) + B ^ i * x ∧ ((i < a.length ∧ a[i]? = some x) ∨ (¬ i < a.length ∧ x = 0)) := by
 by_cases h : i < a.length
 ·obtain ⟨x, hx⟩ : ∃ x, a[i]? = some x := ⟨_, List.getElem?_eq_getElem h⟩
  exact ⟨x, ha.get hx, val_take_succ hx, .inl ⟨h, hx⟩⟩
 ·have hn : a[i]? = none := List.getElem?_eq_none (by omega)
  exact ⟨0, B_pos, by rw [take_over hn]; simp, .inr ⟨h, rfl⟩⟩
def Trs : Tab := ((Tab.none.with 66 (pureS sTrim)).ext 144 sAdd64).ext 148 sSub64
theorem Trs_ok : TabOk Tryz.prog base Trs := Tab.ext_ok (Tab.ext_ok (Tab.with_ok Tab.none_ok rtrim_ok) add64_at) sub64_at
theorem Trs_mu (f : FuncId) (a : List AVal) (H : Heap) : Trs.mu f a H = none := (rfl)
theorem Trs_trim : Trs.fn 66 = pureS sTrim := (rfl)
theorem Trs_sub : Trs.ex 148 = sSub64 := (rfl)
theorem rsub_ok : FnOk Tryz.prog base 134 (pureS sMinus) := by
 refine pure_of_vc hmix Trs_ok globNone low134 fun args z hs hf => ?_
 unfold sMinus at hs
 split at hs
 case h_2 => cases hs
 rename_i xs ys
 split at hs
 case h_2 => cases hs
 rename_i a b ha hb
 split at hs
 case isFalse => cases hs
 rename_i hba
 cases hs
 obtain ⟨rfl, hla⟩ := decN_some ha
 obtain ⟨rfl, hlb⟩ := decN_some hb
 refine ⟨by simp [lf134], ?_⟩
 have wa := wf_limbs a
 have wb := wf_limbs b
 have va := val_limbs a
 have vb := val_limbs b
 have la : (limbs a).length = len a := rfl
 have lb : (limbs b).length = len b := rfl
 have hlen := len_mono hba
 simp [lf134]
 simp only [lf134_B0, vc_block]
 refine loop_ind (fun fr H => ∃ (i : Nat) (l : List Nat) (c : Nat) (x : AVal), i ≤ len a ∧ l.length = i ∧ Wf l ∧ c ≤ 1 ∧ val l + val ((limbs b).take i) = val ((limbs a).take i) + B ^ i * c ∧ IsRow H x l ∧
   fr 0 = .p (.lst ((limbs a).map u64)) ∧ fr 1 = .p (.lst ((limbs b).map u64)) ∧ fr 5 = x ∧ fr 6 = .p (.int .u64 c) ∧ fr 7 = .p (.int .i64 i))
  (fun fr _ => len a - ivar (fr 7)) ⟨0, [], 0, .tight [], by omega, rfl, Wf.nil, by omega, by simp [val_nil], .inl ⟨rfl, rfl⟩, by simp, by simp, by simp, by simp, by simp⟩ ?_
 rintro fr H ⟨i, l, c, x, hi, hl, hwl, hc, hv, hR, f0, f1, f5, f6, f7⟩
 by_cases hp1 : i < len a
 ·obtain ⟨p, hp2⟩ : ∃ p, (limbs a)[i]? = some p := ⟨_, List.getElem?_eq_getElem (by omega)⟩
  have hpB := wa.get hp2
  have hpv := val_take_succ hp2
  obtain ⟨q, hqB, hqv, hq⟩ := limb_at wb i
  rw [lb] at hq
  have hst := sub_step (p := val l) (u := val ((limbs a).take i)) (v := val ((limbs b).take i)) (P := B ^ i) hpB hqB hc hv
  have hsa := sSub64_nat (x := p) (y := q) hc
  have hD := subD_lt p q c
  have hC := subC_le p q c
  obtain ⟨D, hDD⟩ : ∃ t, t = subD p q c := ⟨_, rfl⟩
  obtain ⟨C, hCC⟩ : ∃ t, t = subC p q c := ⟨_, rfl⟩
  rw [← hDD, ← hCC] at hsa hst
  rw [← hDD] at hD
  rw [← hCC] at hC
  obtain ⟨j, ver, H', happ, hj⟩ := app_row hR D (by omega) ⟨1, 0, false, [.p (.int .u64 D)], 147⟩
  have hnew : val (l ++ [D]) + val ((limbs b).take (i + 1)) = val ((limbs a).take (i + 1)) + B ^ (i + 1) * C := by
   rw [val_snoc, hl, hpv, hqv, Nat.pow_succ, ← hst]
  have hwn : Wf (l ++ [D]) := hwl.append (Wf.cons hD Wf.nil)
  have hw := wrap_succ (i := i) (by omega)
  have hRn : IsRow H' (.own j 0 (l.length + 1) ver) (l ++ [D]) := by
   have := IsRow.own hj
   simpa using this
  rcases hq with ⟨hq1, hq2⟩ | ⟨hq1, rfl⟩
  ·simp [f0, f1, f5, f6, f7, la, lb, hp1, hq1, hp2, getE hp2, hq2, getE hq2, hsa, happ, hw, fillS, Trs_sub, ivar, -appV]
   exact ⟨⟨i + 1, by omega, l ++ [D], by simp [hl], hwn, C, hC, hnew, _, hRn, rfl, rfl, by omega⟩, by omega⟩
  ·simp only [Int.natCast_zero] at hsa
   simp [f0, f1, f5, f6, f7, la, lb, hp1, hq1, hp2, getE hp2, hsa, happ, hw, fillS, Trs_sub, ivar, -appV]
   exact ⟨⟨i + 1, by omega, l ++ [D], by simp [hl], hwn, C, hC, hnew, _, hRn, rfl, rfl, by omega⟩, by omega⟩
 ·have hva : val ((limbs a).take i) = a := by rw [List.take_of_length_le (by omega)]; exact va
  have hvb : val ((limbs b).take i) = b := by rw [List.take_of_length_le (by omega)]; exact vb
  rw [hva, hvb] at hv
  subst f5
  have hvl := val_lt hwl
  rw [hl] at hvl
  have hc0 : c = 0 := by
   rcases Nat.eq_zero_or_pos c with h | h
   ·exact h
   ·have : c = 1 := by omega
    subst this
    omega
  subst hc0
  have hvl : val l = a - b := by omega
  have ht := sTrim_map hwl (by omega)
  rw [hvl] at ht
  rcases hR with ⟨hl0, hx⟩ | ⟨j, ver, hx, hj⟩
  ·rw [hl0] at ht
   simp only [List.map_nil] at ht
   simp [f0, f1, hx, f6, f7, la, lb, hp1, ht, Trs_mu, Trs_trim, numP, lstP]
  ·unfold rowE at hj
   have htk : List.take l.length (l.map u64) = l.map u64 := List.take_of_length_le (by simp)
   simp [f0, f1, hx, hj, f6, f7, la, lb, hp1, ht, htk, mapO_au, touch_au, mapO_au_take, touch_au_take, Trs_mu, Trs_trim, numP, lstP]
end Go.Proofs.YtgbjjikaenlkmaaGreat

/-
 The reference: products.
-/
namespace Go.Proofs.YtgbjjikaenlkmaaGreat
open Go Go.Abs Go.Limbs
variable {base : Prot}
set_option maxRecDepth 20000
attribute [local irreducible] vc
attribute [local simp] pureS touchV freezeL fuel shiftV u64 au
theorem val_set : ∀ {l : List Nat} {m o : Nat} (t : Nat), l[m]? = some o → val (l.set m t) + B ^ m * o = val l + B ^ m * t
 | [], m, o, t, h => by simp at h
 | x :: r, 0, o, t, h => by
  simp only [List.getElem?_cons_zero, Option.some.injEq] at h
  subst h
  simp only [List.set_cons_zero, val_cons, Nat.pow_zero, Nat.one_mul]
  omega
 | x :: r, m + 1, o, t, h => by
  simp only [List.getElem?_cons_succ] at h
  have ih := val_set t h
  simp only [List.set_cons_succ, val_cons, Nat.pow_succ]
  generalize val (r.set m t) = u at *
  generalize val r = v at *
  generalize B ^ m = p at *
  grind
end Go.Proofs.YtgbjjikaenlkmaaGreat

/-
 The reference's answers for sums, differences, products and the order.
-/
namespace Go.Proofs.YtgbjjikaenlkmaaGreat
open Go Go.Abs Go.Limbs
variable {base : Prot}
set_option maxRecDepth 20000
attribute [local irreducible] vc
attribute [local simp] pureS touchV freezeL fuel shiftV u64 au
end Go.Proofs.YtgbjjikaenlkmaaGreat
