/-
  What Clash and the small functions of uf, model and law24 compute. No conditions beyond the lemmas' own hypotheses.
-/
import Derived.Test.YtgbjjikaenlkmaaGreatUfB
import Derived.Test.YtgbjjikaenlkmaaGreatLinH
set_option linter.unusedSimpArgs false
set_option linter.unnecessarySimpa false
set_option linter.unusedVariables false
set_option linter.constructorNameAsVariable false

/-
 uf: when two applications clash.
-/
namespace Go.Proofs.YtgbjjikaenlkmaaGreat
open Go Go.Abs Go.Limbs
variable {base : Prot}
set_option maxRecDepth 20000
attribute [local irreducible] vc
attribute [local simp] pureS touchV freezeL fuel shiftV u64 au
theorem getT (H l : Heap) (i : Nat) : (H ++ l)[H.length + i]? = l[i]? := by rw [List.getElem?_append_right (by omega)]; congr 1; omega
theorem getT0 (H l : Heap) : (H ++ l)[H.length]? = l[0]? := getT H l 0
theorem setT (H l : Heap) (i : Nat) (x : Ent) : (H ++ l).set (H.length + i) x = H ++ l.set i x := by rw [List.set_append_right _ _ (by omega)]; congr 2; omega
theorem setT0 (H l : Heap) (x : Ent) : (H ++ l).set H.length x = H ++ l.set 0 x := setT H l 0 x
def clashV (es : List AVal) (a b : Md) : Option Bool :=
 if a.f = b.f ∧ a.ag.length = b.ag.length then
  match lookL es (a.id :: a.ag) with
  | some (x :: xs) => (match lookL es (b.id :: b.ag) with
   | some (y :: ys) => some (sameVs xs ys && !sameV x y)
   | _ => none)
  | _ => none
 else some false
def Md.few (m : Md) : Bool := decide (m.ag.length < 100000)
def sClash : List AVal → Heap → Option (AVal × Heap)
 | [.omap j ver, .p a, .p b], H => match H[j]? with
  | some e => if e.ver = ver then
    (match cMd.dec a with
    | some x => (match cMd.dec b with
     | some y => if (x.few && y.few) = true then
       (match clashV e.elems x y with
       | some r => some (.p (.bool r), H)
       | none => none)
      else none
     | none => none)
    | none => none)
   else none
  | none => none
 | _, _ => none
def Tcl0 : Tab := (Tab.none.with 48 (pureS sEqV)).with 49 (pureS (sp2 cVa cVa sameVP))
theorem Tcl0_ok : TabOk Tryz.prog base Tcl0 := Tab.with_ok (Tab.with_ok Tab.none_ok eqv_ok) samev_ok
def Tcl : Tab := Tcl0.own 27 sVals
theorem Tcl_ok : TabOk Tryz.prog base Tcl := Tab.own_ok Tcl0_ok vals_ok
theorem Tcl_fns : Tcl.fn 48 = pureS sEqV ∧ Tcl.fn 49 = pureS (sp2 cVa cVa sameVP) := ⟨rfl, rfl⟩
def sValsK := sVals
theorem Tcl_mu (a : List AVal) (H : Heap) : Tcl.mu 27 a H = sValsK a H ∧ Tcl.mu 48 a H = none ∧ Tcl.mu 49 a H = none := ⟨rfl, rfl, rfl⟩
theorem sVals_at {H : Heap} {j k ver v n : Nat} {e : Ent} {fz : Bool} {ty : TypeId} {ids : List Int} {vs : List Va} {es : List AVal} (hj : H[j]? = some e) (hv : e.ver = ver) (hk : H[k]? = some ⟨1, v, fz, es, ty⟩) (he : es = ids.map (fun n => .p (.int .i64 n))) (hn : n = ids.length) (h1 : ids.length ≤ 1000000) (h0 : 0 < ids.length)
  (hl : lookL e.elems ids = some vs) : sVals [.omap j ver, .own k 0 n v] H = some (.p (.tup [.lst (vs.map Va.enc), .bool true]), H) := by
 subst he hn
 simp only [sVals, hj, hk]
 rw [if_pos ⟨hv, trivial, trivial, by simp, h1, h0⟩]
 simp only [intsA_map, hl]
theorem clash_ok : MuOk Tryz.prog base 25 sClash := by
 refine own_of_vc' hmix Tcl_ok globNone low25 fun args H r H' hs hf hb => ?_
 unfold sClash at hs
 split at hs
 case h_2 => cases hs
 rename_i j ver a b
 cases hj : H[j]? with
 | none => rw [hj] at hs; cases hs
 | some e =>
 rw [hj] at hs
 simp only at hs
 split at hs
 case isFalse => cases hs
 rename_i hver
 cases ha : cMd.dec a with
 | none => rw [ha] at hs; cases hs
 | some x =>
 rw [ha] at hs
 simp only at hs
 cases hbb : cMd.dec b with
 | none => rw [hbb] at hs; cases hs
 | some y =>
 rw [hbb] at hs
 simp only at hs
 split at hs
 case isFalse => cases hs
 rename_i hfew
 cases hcl : clashV e.elems x y with
 | none => rw [hcl] at hs; cases hs
 | some q =>
 rw [hcl] at hs
 cases hs
 obtain ⟨rfl, _⟩ := cMd.ed _ _ ha
 obtain ⟨rfl, _⟩ := cMd.ed _ _ hbb
 refine ⟨by simp [lf25], rfl, hb, .p _, ?_⟩
 obtain ⟨xi, xf, xa⟩ := x
 obtain ⟨yi, yf, ya⟩ := y
 simp only [Md.few, Bool.and_eq_true, decide_eq_true_eq] at hfew
 obtain ⟨few1, few2⟩ := hfew
 unfold clashV at hcl
 simp only [cMd]
 by_cases hne : xf = yf ∧ xa.length = ya.length
 ·rw [if_pos hne] at hcl
  obtain ⟨rfl, hla⟩ := hne
  cases hx : lookL e.elems (xi :: xa) with
  | none => simp only [hx] at hcl; cases hcl
  | some vx =>
  simp only [hx] at hcl
  cases vx with
  | nil => simp at hcl
  | cons x0 xs =>
  simp only at hcl
  cases hy : lookL e.elems (yi :: ya) with
  | none => simp only [hy] at hcl; cases hcl
  | some vy =>
  simp only [hy] at hcl
  cases vy with
  | nil => simp at hcl
  | cons y0 ys =>
  simp only [Option.some.injEq] at hcl
  obtain ⟨m1, w1, -⟩ := lookL_get hx
  obtain ⟨m2, w2, -⟩ := lookL_get hy
  have e0 : cVa.enc = Va.enc := rfl
  have hS := sp2_at (g := sameVP) (w1 x0 (by simp)) (w2 y0 (by simp))
  have hE := sEqV_at (fun z hz => w1 z (by simp [hz])) (fun z hz => w2 z (by simp [hz])) (l := xs) (m := ys)
  rw [e0] at hS
  have hso : ∀ l : List Va, sizeOk 6 (l.map Va.enc) = true := fun l => by
   unfold sizeOk
   rw [List.all_eq_true]
   intro z hz
   obtain ⟨v, _, rfl⟩ := List.mem_map.1 hz
   rfl
  have hbs : binS .neq xf xf = some (.bool false) := by simp [binS]
  have hmx : maxLen = 9223372036854775807 := rfl
  have hb1 : 1 + ya.length ≤ maxLen := by omega
  have hb2 : (1 + ya.length) * 8 ≤ 140737488355328 := by omega
  have hv1 : ∀ (c1 c2 : Ent) X, sValsK [.omap j ver, .own (H.length + 2) 0 (1 + ya.length) 1] (H ++ c1 :: c2 :: ⟨1, 1, false, .p (.int .i64 xi) :: xa.map fun n => .p (.int .i64 n), 3⟩ :: X) =
    some (.p (.tup [.lst (x0.enc :: xs.map Va.enc), .bool true]), H ++ c1 :: c2 :: ⟨1, 1, false, .p (.int .i64 xi) :: xa.map fun n => .p (.int .i64 n), 3⟩ :: X) := fun c1 c2 X =>
   sVals_at (by rw [List.getElem?_append_left (List.getElem?_eq_some_iff.1 hj).1]; exact hj) hver (getT _ _ 2) (ids := xi :: xa) rfl (by simp [hla]; omega) (by simp; omega) (by simp) hx
  have hv2 : ∀ (c1 c2 c3 : Ent) X, sValsK [.omap j ver, .own (H.length + 3) 0 (1 + ya.length) 1] (H ++ c1 :: c2 :: c3 :: ⟨1, 1, false, .p (.int .i64 yi) :: ya.map fun n => .p (.int .i64 n), 3⟩ :: X) =
    some (.p (.tup [.lst (y0.enc :: ys.map Va.enc), .bool true]), H ++ c1 :: c2 :: c3 :: ⟨1, 1, false, .p (.int .i64 yi) :: ya.map fun n => .p (.int .i64 n), 3⟩ :: X) := fun c1 c2 c3 X =>
   sVals_at (by rw [List.getElem?_append_left (List.getElem?_eq_some_iff.1 hj).1]; exact hj) hver (getT _ _ 3) (ids := yi :: ya) rfl (by simp; omega) (by simp; omega) (by simp) hy
  have hint : cI.enc = fun n => .int .i64 n := rfl
  rw [hint]
  have hmm : ∀ l : List Int, (l.map ((AVal.p) ∘ fun n => PVal.int .i64 n)) = l.map fun n => .p (.int .i64 n) := fun l => rfl
  have hso1 := hso (x0 :: xs)
  have hso2 := hso (y0 :: ys)
  simp only [List.map_cons] at hso1 hso2
  simp only [Va.enc, Va.cells] at hso1 hso2 hS
  have g1 : (1 : Int) ≤ (xs.length : Int) + 1 := by omega
  have g2 : (1 : Int) ≤ (ys.length : Int) + 1 := by omega
  have g3 : List.take xs.length (xs.map Va.enc) = xs.map Va.enc := List.take_of_length_le (by simp)
  have g4 : List.take ys.length (ys.map Va.enc) = ys.map Va.enc := List.take_of_length_le (by simp)
  cases hq1 : sameVs xs ys <;> cases hq2 : sameV x0 y0 <;> rw [hq1, hq2] at hcl <;> cases hcl <;> rw [hq1] at hE <;> (simp only [sameVP, hq2] at hS) <;> (simp [lf25, hla, getT, getT0, setT, setT0, fillS, Tcl_mu, Tcl_fns, hbs, hb1, hb2, hv1, hv2, hmm, Va.enc, Va.cells, hso1, hso2, hE, hS, g1, g2, g3, g4, ownQ, finish, mapO, resOne, allP])
 ·rw [if_neg hne] at hcl
  cases hcl
  have hne' : xf = yf → ¬ xa.length = ya.length := fun h1 h2 => hne ⟨h1, h2⟩
  by_cases hff : xf = yf
  ·have hll : ((xa.length : Int) != ya.length) = true := by simp; have := hne' hff; omega
   have hbs : binS .neq yf yf = some (.bool false) := by simp [binS]
   simp [lf25, hff, hll, getT, getT0, setT, setT0, hbs, ownQ, finish, mapO, resOne, allP]
  ·have hbs : binS .neq xf yf = some (.bool true) := by simp [binS, hff]
   simp [lf25, hff, hbs, getT, getT0, setT, setT0, ownQ, finish, mapO, resOne, allP]
end Go.Proofs.YtgbjjikaenlkmaaGreat

/-
 uf: the first two applications that clash.
-/
namespace Go.Proofs.YtgbjjikaenlkmaaGreat
open Go Go.Abs Go.Limbs
variable {base : Prot}
set_option maxRecDepth 20000
attribute [local irreducible] vc
attribute [local simp] pureS touchV freezeL fuel shiftV u64 au
def clashRow (es : List AVal) (a : Md) : List Md → Nat → Option (Option Nat)
 | [], _ => some none
 | b :: r, j => match clashV es a b with
  | some true => some (some j)
  | some false => clashRow es a r (j + 1)
  | none => none
def clashAll (es : List AVal) : List Md → Nat → Option (Option (Nat × Nat))
 | [], _ => some none
 | a :: r, i => match clashRow es a r (i + 1) with
  | some (some j) => some (some (i, j))
  | some none => clashAll es r (i + 1)
  | none => none
def trip : Option (Nat × Nat) → PVal
 | some (i, j) => .tup [.int .i64 i, .int .i64 j, .bool true]
 | none => .tup [.int .i64 0, .int .i64 0, .bool false]
def clashP (ms : List Md) (gs : List Gv) : Option PVal :=
 if (ms.all Md.few && decide (ms.length ≤ 1000000) && decide (gs.length ≤ 1000000)) = true then
  match clashAll (tabP (gs.map kvG)) ms 0 with
  | some r => some (trip r)
  | none => none
 else none
def Tca0 : Tab := Tab.none.with 24 sTabG
theorem Tca0_ok : TabOk Tryz.prog base Tca0 := Tab.with_ok Tab.none_ok tabG_ok
def Tca : Tab := Tca0.own 25 sClash
theorem Tca_ok : TabOk Tryz.prog base Tca := Tab.own_ok Tca0_ok clash_ok
theorem Tca_fns : Tca.fn 24 = sTabG := rfl
def sClashK := sClash
theorem Tca_mu (a : List AVal) (H : Heap) : Tca.mu 25 a H = sClashK a H ∧ Tca.mu 24 a H = none := ⟨rfl, rfl⟩
theorem sClash_at {G : Heap} {e : Ent} {x y : Md} {q : Bool} (h0 : G[0]? = some e) (hv : e.ver = 0) (h1 : x.few = true) (h2 : y.few = true) (hq : clashV e.elems x y = some q) : sClashK [.omap 0 0, .p (cMd.enc x), .p (cMd.enc y)] G = some (.p (.bool q), G) := by
 simp only [sClashK, sClash, h0, cMd.de x trivial, cMd.de y trivial]
 rw [if_pos hv, if_pos (by simp [h1, h2])]
 simp only [hq]
theorem sTabG_at {gs : List Gv} (h : gs.length ≤ 1000000) (w : cGv.wfL gs) : sTabG [.lst (gs.map cGv.enc)] = some (.omap 0 0, [⟨0, 0, false, tabP (gs.map kvG), 0⟩]) := by
 simp only [sTabG, cGv.deL gs w]
 rw [if_pos (by omega)]
theorem tabP_shift (n : Nat) (l : List (Int × PVal)) : (tabP l).map (shiftV n) = tabP l := by
 have h := tabP_mcell l
 generalize tabP l = m at h
 induction m with
 | nil => rfl
 | cons x r ih =>
  obtain ⟨k, z, rfl⟩ := h x (by simp)
  rw [List.map_cons, ih (fun x hx => h x (by simp [hx]))]
  simp [mcell, shiftV]
theorem Clash_ok : FnOk Tryz.prog base 10 (pureS (sp2 cMd.lst cGv.lst clashP)) := by
 refine pure_of_vc hmix Tca_ok globNone low10 fun args z hs hf => ?_
 obtain ⟨ms, gs, wm, wg, rfl, hz⟩ := sp2_some hs
 unfold clashP at hz
 split at hz
 case isFalse => cases hz
 rename_i hc
 simp only [Bool.and_eq_true, decide_eq_true_eq, List.all_eq_true] at hc
 obtain ⟨⟨hfew, hml⟩, hgl⟩ := hc
 obtain ⟨es, hes⟩ : ∃ es, es = tabP (gs.map kvG) := ⟨_, rfl⟩
 have ht := sTabG_at hgl wg
 rw [← hes] at ht hz
 cases hr : clashAll es ms 0 with
 | none => rw [hr] at hz; cases hz
 | some r =>
 rw [hr] at hz
 cases hz
 refine ⟨by simp [lf10], ?_⟩
 simp only [Cd.lst]
 have hsh : es.map (shiftV 0) = es := by rw [hes]; exact tabP_shift 0 _
 simp [lf10, ht, Tca_mu, Tca_fns, shiftE, -shiftV, hsh]
 simp only [lf10_B1, vc_block]
 refine loop_ind (fun fr G => ∃ i : Nat, i ≤ ms.length ∧ G[0]? = some ⟨0, 0, false, es, 0⟩ ∧ fr 0 = .p (.lst (ms.map cMd.enc)) ∧ fr 7 = .omap 0 0 ∧ fr 13 = .p (.lst (ms.map cMd.enc)) ∧ fr 14 = .p (.int .i64 ms.length) ∧ fr 15 = .p (.int .i64 i) ∧ clashAll es (ms.drop i) i = some r) (fun fr _ => ms.length - ivar (fr 15)) ⟨0, by omega, by simp, by simp, by simp, by simp, by simp, by simp, by simpa using hr⟩ ?_
 rintro fr G ⟨i, hi, hG, f0, f7, f13, f14, f15, hcl⟩
 by_cases h : i < ms.length
 ·obtain ⟨a, ha⟩ : ∃ a, ms[i]? = some a := ⟨_, List.getElem?_eq_getElem h⟩
  have hna := getE ha
  have hw := wrap_succ (i := i) (by omega)
  have hfa := hfew a (List.mem_of_getElem? ha)
  have hdr : ms.drop i = a :: ms.drop (i + 1) := by rw [List.drop_eq_getElem_cons h, hna]
  rw [hdr] at hcl
  simp only [clashAll] at hcl
  have hGl : 0 < G.length := (List.getElem?_eq_some_iff.1 hG).1
  have hea : cMd.enc a = .agg [.int .i64 a.id, .str a.f, .lst (a.ag.map cI.enc)] := rfl
  simp [f0, f7, f13, f14, f15, h, ha, hna, hw, hea, getT0, setT0]
  simp only [lf10_B0, vc_block]
  refine loop_ind (fun fr G' => ∃ j : Nat, i + 1 ≤ j ∧ j ≤ ms.length ∧ G'[0]? = some ⟨0, 0, false, es, 0⟩ ∧ G'[G.length]? = some ⟨3, 0, false, [.p (.agg [.int .i64 a.id, .str a.f, .lst (a.ag.map cI.enc)])], 26⟩ ∧
   fr 0 = .p (.lst (ms.map cMd.enc)) ∧ fr 7 = .omap 0 0 ∧ fr 8 = .p (.int .i64 i) ∧ fr 9 = .optr G.length 0 0 0 ∧ fr 10 = .p (.int .i64 j) ∧ fr 13 = .p (.lst (ms.map cMd.enc)) ∧ fr 14 = .p (.int .i64 ms.length) ∧ fr 15 = .p (.int .i64 i) ∧
   (match clashRow es a (ms.drop j) j with | some (some j) => some (some (i, j)) | some none => clashAll es (ms.drop (i + 1)) (i + 1) | none => none) = some r) (fun fr _ => ms.length - ivar (fr 10)) ⟨i + 1, by omega, by omega, by rw [List.getElem?_append_left hGl]; exact hG, by simp, by simp [f0], by simp [f7], by simp, by simp, by simp, by simp [f13], by simp [f14], by simp [f15], hcl⟩ ?_
  rintro fr2 G2 ⟨j, hij, hj, g0, gA, k0, k7, k8, k9, k10, k13, k14, k15, hrow⟩
  by_cases hjl : j < ms.length
  ·obtain ⟨b, hb⟩ : ∃ b, ms[j]? = some b := ⟨_, List.getElem?_eq_getElem hjl⟩
   have hnb := getE hb
   have hwj := wrap_succ (i := j) (by omega)
   have hfb := hfew b (List.mem_of_getElem? hb)
   have hdrj : ms.drop j = b :: ms.drop (j + 1) := by rw [List.drop_eq_getElem_cons hjl, hnb]
   rw [hdrj] at hrow
   simp only [clashRow] at hrow
   have heb : cMd.enc b = .agg [.int .i64 b.id, .str b.f, .lst (b.ag.map cI.enc)] := rfl
   cases hcv : clashV es a b with
   | none => rw [hcv] at hrow; cases hrow
   | some q =>
    rw [hcv] at hrow
    have hc := sClash_at g0 rfl hfa hfb hcv
    rw [hea, heb] at hc
    cases q with
    | true =>
     simp only [Option.some.injEq] at hrow
     subst hrow
     simp [k0, k7, k8, k9, k10, hjl, hb, hnb, heb, gA, hc, Tca_mu, trip]
    | false =>
     simp only at hrow
     simp [k0, k7, k8, k9, k10, k13, k14, k15, hjl, hb, hnb, heb, gA, g0, hc, Tca_mu, hwj, ivar]
     exact ⟨⟨j + 1, by omega, by omega, rfl, hrow⟩, by omega⟩
  ·have hjj : j = ms.length := by omega
   subst hjj
   rw [List.drop_of_length_le (Nat.le_refl _)] at hrow
   simp only [clashRow] at hrow
   simp [k0, k7, k10, k13, k14, k15, g0, hw, ivar]
   exact ⟨⟨i + 1, by omega, rfl, hrow⟩, by omega⟩
 ·have hil : i = ms.length := by omega
  subst hil
  rw [List.drop_of_length_le (Nat.le_refl _)] at hcl
  simp only [clashAll, Option.some.injEq] at hcl
  subst hcl
  simp [f14, f15, trip]
end Go.Proofs.YtgbjjikaenlkmaaGreat

/-
 uf: values, constants' sums, copies.
-/
namespace Go.Proofs.YtgbjjikaenlkmaaGreat
open Go Go.Abs Go.Limbs
variable {base : Prot}
set_option maxRecDepth 20000
attribute [local irreducible] vc
attribute [local simp] pureS touchV freezeL fuel shiftV u64 au
def valV (s n : Int) : Va := if s = 0 then ⟨0, decide (n = 1), zF, 0⟩ else if s = 1 then ⟨1, false, ofQ (Rat.divInt n 1), 0⟩ else ⟨s, false, zF, n⟩
def valP (s n : Int) : Option PVal := if -1000 ≤ n ∧ n ≤ 1000 then some (valV s n).enc else none
def Tval : Tab := Tab.none.with 19 (pureS sQOf)
theorem Tval_ok : TabOk Tryz.prog base Tval := Tab.with_ok Tab.none_ok rofR_ok
theorem Tval_mu (f : FuncId) (a : List AVal) (H : Heap) : Tval.mu f a H = none := (rfl)
theorem Tval_fns : Tval.fn 19 = (pureS sQOf) := (rfl)
theorem value_ok' : FnOk Tryz.prog base 8 (pureS (sp2 cI cI valP)) := by
 refine pure_of_vc hmix Tval_ok globNone low8 fun args z hs hf => ?_
 obtain ⟨s, n, -, -, rfl, hz⟩ := sp2_some hs
 unfold valP at hz
 split at hz
 case isFalse => cases hz
 rename_i hn
 cases hz
 refine ⟨by simp [lf8], ?_⟩
 have o1 := ofR (n := n) (d := 1) ⟨hn, by decide⟩
 simp only [cI, valV]
 by_cases h0 : s = 0
 ·subst h0
  simp [lf8, Va.enc, Va.cells, zF, fillA]
  rfl
 ·have h0' : (s == 0) = false := by simpa using h0
  by_cases h1 : s = 1
  ·subst h1
   obtain ⟨x, hx⟩ : ∃ x, x = ofQ (Rat.divInt n 1) := ⟨_, rfl⟩
   rw [← hx] at o1 ⊢
   simp only [Fr.enc] at o1
   simp [lf8, Va.enc, Va.cells, o1, fillA, Tval_mu, Tval_fns]
  ·have h1' : (s == 1) = false := by simpa using h1
   simp [lf8, h0, h1, h0', h1', Va.enc, Va.cells, zF, fillA]
def varPo (t : Int) : Po := ⟨[⟨ofQ 1, t⟩], ofQ 0⟩
theorem varPo_wf (t : Int) : (varPo t).wf := ⟨fun x hx => by simp [varPo] at hx; subst hx; exact wf_ofQ _, wf_ofQ _⟩
def varP (t : Int) : Option PVal := some (varPo t).enc
theorem o1_eq : Rat.divInt 1 1 = 1 := by decide +kernel
def Tvr : Tab := (Tab.none.with 43 (pureS sQOf)).with 53 (pureS sQZero)
theorem Tvr_ok : TabOk Tryz.prog base Tvr := Tab.with_ok (Tab.with_ok Tab.none_ok qof_ok) qzero_ok
theorem Tvr_mu (f : FuncId) (a : List AVal) (H : Heap) : Tvr.mu f a H = none := (rfl)
theorem Tvr_fns : Tvr.fn 43 = (pureS sQOf) ∧ Tvr.fn 53 = (pureS sQZero) := ⟨rfl, rfl⟩
theorem lvar_ok : FnOk Tryz.prog base 42 (pureS (sp1 cI varP)) := by
 refine pure_of_vc hmix Tvr_ok globNone low42 fun args z hs hf => ?_
 obtain ⟨t, -, rfl, hz⟩ := sp1_some hs
 cases hz
 refine ⟨by simp [lf42], ?_⟩
 have o1 := ofR (n := 1) (d := 1) (by decide)
 rw [o1_eq] at o1
 have o2 := sQZero_nil
 simp only [cI, varPo, Po.enc, List.map_cons, List.map_nil, Pa.enc]
 obtain ⟨x, hx⟩ : ∃ x, x = ofQ 1 := ⟨_, rfl⟩
 obtain ⟨y, hy⟩ : ∃ x, x = ofQ 0 := ⟨_, rfl⟩
 rw [← hx] at o1 ⊢
 rw [← hy] at o2 ⊢
 simp only [Fr.enc] at o1 o2
 simp [lf42, o1, o2, fillS, fillA, Tvr_mu, Tvr_fns]
def zerV (s : Int) : Va := if s = 1 then ⟨1, false, ofQ 0, 0⟩ else ⟨s, false, zF, 0⟩
def zerP (s : Int) : Option PVal := some (zerV s).enc
def Tze : Tab := Tab.none.with 53 (pureS sQZero)
theorem Tze_ok : TabOk Tryz.prog base Tze := Tab.with_ok Tab.none_ok qzero_ok
theorem Tze_mu (f : FuncId) (a : List AVal) (H : Heap) : Tze.mu f a H = none := (rfl)
theorem Tze_fns : Tze.fn 53 = (pureS sQZero) := (rfl)
theorem mzero_ok : FnOk Tryz.prog base 30 (pureS (sp1 cI zerP)) := by
 refine pure_of_vc hmix Tze_ok globNone low30 fun args z hs hf => ?_
 obtain ⟨s, -, rfl, hz⟩ := sp1_some hs
 cases hz
 refine ⟨by simp [lf30], ?_⟩
 have o2 := sQZero_nil
 simp only [cI, zerV]
 by_cases h1 : s = 1
 ·subst h1
  obtain ⟨y, hy⟩ : ∃ x, x = ofQ 0 := ⟨_, rfl⟩
  rw [← hy] at o2 ⊢
  simp only [Fr.enc] at o2
  simp [lf30, o2, Va.enc, Va.cells, fillA, Tze_mu, Tze_fns]
 ·have h1' : (s == 1) = false := by simpa using h1
  simp [lf30, h1, h1', Va.enc, Va.cells, zF, fillA]
def ownP (v : Va) : Option PVal := if v.x.small = true then some v.enc else none
def Tow24 : Tab := Tab.none.with 75 (pureS sOwn)
theorem Tow24_ok : TabOk Tryz.prog base Tow24 := Tab.with_ok Tab.none_ok lown_ok
theorem Tow24_mu (f : FuncId) (a : List AVal) (H : Heap) : Tow24.mu f a H = none := (rfl)
theorem Tow24_fns : Tow24.fn 75 = (pureS sOwn) := (rfl)
theorem mown_ok : FnOk Tryz.prog base 61 (pureS (sp1 cVa ownP)) := by
 refine pure_of_vc hmix Tow24_ok globNone low61 fun args z hs hf => ?_
 obtain ⟨v, wv, rfl, hz⟩ := sp1_some hs
 unfold ownP at hz
 split at hz
 case isFalse => cases hz
 rename_i hsm
 cases hz
 refine ⟨by simp [lf61], ?_⟩
 have o := sOwn_at (show v.x.wf from wv) hsm
 obtain ⟨k, b, ⟨s, n, d⟩, e⟩ := v
 simp only [Fr.enc] at o
 simp only [cVa, Va.enc, Va.cells]
 simp [lf61, o, Tow24_mu, Tow24_fns]
end Go.Proofs.YtgbjjikaenlkmaaGreat

/-
 uf: that two constants are one; the last literals of lemmas.
-/
namespace Go.Proofs.YtgbjjikaenlkmaaGreat
open Go Go.Abs Go.Limbs
variable {base : Prot}
set_option maxRecDepth 20000
attribute [local irreducible] vc
attribute [local simp] pureS touchV freezeL fuel shiftV u64 au
def mnI (a b : Int) : Int := if b < a then b else a
def mxI (a b : Int) : Int := if a < b then b else a
def pairAt (r : At × Int) : PVal := .tup [r.1.enc, .int .i64 r.2]
def sameT (x y : Int) : At := ⟨5, zPo, mnI x y, mxI x y⟩
def termP (x y : Int) : Option PVal := if ¬ x = y ∧ 0 ≤ mnI x y then some (pairAt (sameT x y, 0)) else none
theorem aeq_ok : FnOk Tryz.prog base 40 (pureS (sp2 cI cI termP)) := by
 refine pure_of_vc hmix Tab.none_ok globNone low40 fun args z hs hf => ?_
 obtain ⟨x, y, -, -, rfl, hz⟩ := sp2_some hs
 unfold termP at hz
 split at hz
 case isFalse => cases hz
 rename_i hc
 cases hz
 obtain ⟨h1, h2⟩ := hc
 refine ⟨by simp [lf40], ?_⟩
 have h1' : (x == y) = false := by simpa using h1
 have h3 : ¬ mnI x y < 0 := by omega
 simp only [cI, pairAt, sameT, At.enc, zPo, zF]
 unfold mnI at h3 ⊢
 unfold mxI
 simp [lf40, h1', h3, fillA]
def boolA (x : Int) : At := ⟨6, zPo, x, 0⟩
def boolP (x : Int) : Option PVal := if 0 ≤ x then some (pairAt (boolA x, 0)) else none
theorem abool_ok : FnOk Tryz.prog base 46 (pureS (sp1 cI boolP)) := by
 refine pure_of_vc hmix Tab.none_ok globNone low46 fun args z hs hf => ?_
 obtain ⟨x, -, rfl, hz⟩ := sp1_some hs
 unfold boolP at hz
 split at hz
 case isFalse => cases hz
 rename_i hc
 cases hz
 refine ⟨by simp [lf46], ?_⟩
 have h' : ¬ x < 0 := by omega
 simp only [cI, pairAt, boolA, At.enc, zPo, zF]
 simp [lf46, h', fillA]
def negPo (y : Int) : Po × Nat := scalePo (varPo y) (ofQ (-1))
def subPo (x y : Int) : Po × Nat := addPo (varPo x) (negPo y).1
def numA (x y : Int) : At × Bool × Nat := makeAt 3 (subPo x y).1
def eqA (s x y : Int) : Option At :=
 if s = 1 then (if (negPo y).2 = 0 ∧ (negPo y).1.few = true ∧ (subPo x y).2 = 0 ∧ (subPo x y).1.few = true ∧ (numA x y).2.2 = 0 then some (numA x y).1 else none)
 else if ¬ x = y ∧ 0 ≤ mnI x y then some (sameT x y) else none
theorem eqA_wf {s x y : Int} {a : At} (h : eqA s x y = some a) : a.p.wf := by
 unfold eqA at h
 split at h
 ·split at h
  ·cases h; exact wf_makeAt
  ·cases h
 ·split at h
  ·cases h; exact wf_zPo
  ·cases h
def eqAP (s x y : Int) : Option PVal := match eqA s x y with | some a => some (pairAt (a, 0)) | none => none
def Teq24 : Tab := (((((Tab.none.with 40 (pureS (sp2 cI cI termP))).with 42 (pureS (sp1 cI varP))).with 43 (pureS sQOf)).with 41 (pureS (gks scaleP))).with 44 (pureS (g2s addPP))).with 45 (pureS (ki makeP))
theorem Teq24_ok : TabOk Tryz.prog base Teq24 := Tab.with_ok (Tab.with_ok (Tab.with_ok (Tab.with_ok (Tab.with_ok (Tab.with_ok Tab.none_ok aeq_ok) lvar_ok) qof_ok) scale_ok) ladd_ok) amake_ok
theorem Teq24_mu (f : FuncId) (a : List AVal) (H : Heap) : Teq24.mu f a H = none := (rfl)
theorem Teq24_fns : Teq24.fn 40 = (pureS (sp2 cI cI termP)) ∧ Teq24.fn 42 = (pureS (sp1 cI varP)) ∧ Teq24.fn 43 = (pureS sQOf) ∧ Teq24.fn 41 = (pureS (gks scaleP)) ∧ Teq24.fn 44 = (pureS (g2s addPP)) ∧ Teq24.fn 45 = (pureS (ki makeP)) := ⟨rfl, rfl, rfl, rfl, rfl, rfl⟩
theorem ueq_ok : FnOk Tryz.prog base 21 (pureS (sp3 cI cI cI eqAP)) := by
 refine pure_of_vc hmix Teq24_ok globNone low21 fun args z hs hf => ?_
 obtain ⟨s, x, y, -, -, -, rfl, hz⟩ := sp3_some hs
 unfold eqAP at hz
 cases he : eqA s x y with
 | none => rw [he] at hz; cases hz
 | some a =>
 rw [he] at hz
 cases hz
 unfold eqA at he
 refine ⟨by simp [lf21], ?_⟩
 simp only [cI]
 by_cases h1 : s = 1
 ·subst h1
  rw [if_pos rfl] at he
  split at he
  case isFalse => cases he
  rename_i hc
  cases he
  obtain ⟨n0, nf, s0, sf, m0⟩ := hc
  have o1 := ofR (n := -1) (d := 1) (by decide)
  rw [m1_eq] at o1
  have vf : ∀ t, (varPo t).few = true := fun t => rfl
  have vx : sp1 cI varP [.int .i64 x] = some (varPo x).enc := rfl
  have vy : sp1 cI varP [.int .i64 y] = some (varPo y).enc := rfl
  have v1 : gks scaleP [(varPo y).enc, (ofQ (-1)).enc] = some (.tup [(negPo y).1.enc, .int .i64 (negPo y).2]) := gks_at (varPo_wf y) (wf_ofQ _) (vf y)
  have wn : (negPo y).1.wf := wf_scalePo _ _
  have v2 : g2s addPP [(varPo x).enc, (negPo y).1.enc] = some (.tup [(subPo x y).1.enc, .int .i64 (subPo x y).2]) := g2s_at (varPo_wf x) wn (vf x) nf
  have ws : (subPo x y).1.wf := wf_addPo (varPo_wf x) wn
  have v3 : ki makeP [.int .i64 3, (subPo x y).1.enc] = some (.tup [(numA x y).1.enc, .bool (numA x y).2.1, .int .i64 (numA x y).2.2]) := ki_at ws sf
  rw [n0] at v1
  rw [s0] at v2
  rw [m0] at v3
  obtain ⟨pv, hpv⟩ : ∃ t, t = varPo x := ⟨_, rfl⟩
  obtain ⟨pw, hpw⟩ : ∃ t, t = varPo y := ⟨_, rfl⟩
  obtain ⟨pn, hpn⟩ : ∃ t, t = (negPo y).1 := ⟨_, rfl⟩
  obtain ⟨ps, hps⟩ : ∃ t, t = (subPo x y).1 := ⟨_, rfl⟩
  obtain ⟨pa, hpa⟩ : ∃ t, t = (numA x y).1 := ⟨_, rfl⟩
  obtain ⟨pb, hpb⟩ : ∃ t, t = (numA x y).2.1 := ⟨_, rfl⟩
  obtain ⟨m1, hm1⟩ : ∃ t, t = ofQ (-1) := ⟨_, rfl⟩
  rw [← hpv] at vx v2
  rw [← hpw] at vy v1
  rw [← hpn] at v1 v2
  rw [← hps] at v2 v3
  rw [← hpa, ← hpb] at v3
  rw [← hpa]
  rw [← hm1] at o1 v1
  simp only [Po.enc, Fr.enc, At.enc, pairAt] at o1 vx vy v1 v2 v3 ⊢
  simp [lf21, o1, vx, vy, v1, v2, v3, Teq24_mu, Teq24_fns]
  rw [vc_regionW]
  refine ⟨[], ?_⟩
  simp [o1, vx, vy, v1, v2, v3, Teq24_mu, Teq24_fns]
  exact keepT rfl
 ·have h1' : (s != 1) = true := by simpa using h1
  rw [if_neg h1] at he
  split at he
  case isFalse => cases he
  rename_i hc
  cases he
  have v : sp2 cI cI termP [.int .i64 x, .int .i64 y] = some (pairAt (sameT x y, 0)) := (sp2_at (A := cI) (B := cI) (x := x) (y := y) trivial trivial).trans (if_pos hc)
  obtain ⟨pa, hpa⟩ : ∃ t, t = sameT x y := ⟨_, rfl⟩
  rw [← hpa] at v ⊢
  simp only [At.enc, pairAt] at v ⊢
  simp [lf21, h1, h1', v, Teq24_mu, Teq24_fns]
def endsF (s x y : Int) : Option (List Li × List Li) :=
 if s = 0 then (if 0 ≤ x ∧ 0 ≤ y then some ([⟨boolA x, false⟩, ⟨boolA y, true⟩], [⟨boolA x, true⟩, ⟨boolA y, false⟩]) else none)
 else match eqA s x y with | some a => some ([⟨a, false⟩], []) | none => none
def endsP (s x y : Int) : Option PVal := match endsF s x y with | some r => some (.tup [.lst (r.1.map cLi.enc), .lst (r.2.map cLi.enc), .int .i64 0]) | none => none
def Ten : Tab := (Tab.none.with 21 (pureS (sp3 cI cI cI eqAP))).with 46 (pureS (sp1 cI boolP))
theorem Ten_ok : TabOk Tryz.prog base Ten := Tab.with_ok (Tab.with_ok Tab.none_ok ueq_ok) abool_ok
theorem Ten_mu (f : FuncId) (a : List AVal) (H : Heap) : Ten.mu f a H = none := (rfl)
theorem Ten_fns : Ten.fn 21 = (pureS (sp3 cI cI cI eqAP)) ∧ Ten.fn 46 = (pureS (sp1 cI boolP)) := ⟨rfl, rfl⟩
theorem ends_ok : FnOk Tryz.prog base 22 (pureS (sp3 cI cI cI endsP)) := by
 refine pure_of_vcB hmix Ten_ok globNone low22 fun args z hs hf => ?_
 obtain ⟨s, x, y, -, -, -, rfl, hz⟩ := sp3_some hs
 unfold endsP at hz
 cases he : endsF s x y with
 | none => rw [he] at hz; cases hz
 | some r =>
 rw [he] at hz
 cases hz
 unfold endsF at he
 refine ⟨by simp [lf22], ?_⟩
 simp only [cI]
 by_cases h0 : s = 0
 ·subst h0
  rw [if_pos rfl] at he
  split at he
  case isFalse => cases he
  rename_i hc
  cases he
  have bx : sp1 cI boolP [.int .i64 x] = some (pairAt (boolA x, 0)) := (sp1_at (A := cI) (x := x) trivial).trans (if_pos hc.1)
  have by' : sp1 cI boolP [.int .i64 y] = some (pairAt (boolA y, 0)) := (sp1_at (A := cI) (x := y) trivial).trans (if_pos hc.2)
  have hx : ∀ no, cLi.enc ⟨boolA x, no⟩ = .agg ((boolA x).cells ++ [.bool no]) := fun _ => rfl
  have hy : ∀ no, cLi.enc ⟨boolA y, no⟩ = .agg ((boolA y).cells ++ [.bool no]) := fun _ => rfl
  simp only [List.map_cons, List.map_nil, hx, hy]
  obtain ⟨pa, hpa⟩ : ∃ t, t = boolA x := ⟨_, rfl⟩
  obtain ⟨pb, hpb⟩ : ∃ t, t = boolA y := ⟨_, rfl⟩
  rw [← hpa] at bx ⊢
  rw [← hpb] at by' ⊢
  simp only [At.enc, At.cells, pairAt] at bx by' ⊢
  simp [lf22, bx, by', Ten_mu, Ten_fns]
  rw [vc_regionN]
  refine ⟨[], ?_⟩
  simp [fillS, fillA]
 ·have h0' : (s != 0) = true := by simpa using h0
  rw [if_neg h0] at he
  cases hq : eqA s x y with
  | none => rw [hq] at he; cases he
  | some a =>
  rw [hq] at he
  cases he
  have v : sp3 cI cI cI eqAP [.int .i64 s, .int .i64 x, .int .i64 y] = some (pairAt (a, 0)) := (sp3_at (A := cI) (B := cI) (C := cI) (x := s) (y := x) (z := y) trivial trivial trivial).trans (by simp only [eqAP, hq])
  have hx : ∀ no, cLi.enc ⟨a, no⟩ = .agg (a.cells ++ [.bool no]) := fun _ => rfl
  simp only [List.map_cons, List.map_nil, hx]
  simp only [At.enc, At.cells, pairAt] at v ⊢
  simp [lf22, h0', v, Ten_mu, Ten_fns, fillS, fillA]
def sClL : List PVal → Option (List PVal)
 | [.lst vs] => match decL cLi.dec vs with | some (_ :: l) => if l.length ≤ 1000000 then some vs else none | _ => none
 | _ => none
theorem cloneLi_ok : FnOk Tryz.prog base 23 (freshS 8 80 sClL) := by
 refine fresh_of_vc hmix Tab.none_ok globNone low23 fun args es hs hf => ?_
 unfold sClL at hs
 split at hs
 case h_2 => cases hs
 split at hs
 case h_2 => cases hs
 rename_i x l hl
 obtain ⟨rfl, wl⟩ := cLi.edL _ _ hl
 split at hs
 case isFalse => cases hs
 rename_i hlen
 cases hs
 refine ⟨by simp [lf23], ?_⟩
 have hm : maxLen = 9223372036854775807 := rfl
 have h1 : (l.length + 1) * 112 ≤ 140737488355328 := by omega
 have h2 : l.length + 1 ≤ maxLen := by omega
 have h4 : ∀ x : Li, ∀ z ∈ (cLi.enc x).cells, z.isCell = true := fun x z hz => by
  simp only [cLi, PVal.cells, At.cells, List.cons_append, List.nil_append, List.mem_cons, List.not_mem_nil, or_false] at hz
  rcases hz with rfl | rfl | rfl | rfl | rfl | rfl | rfl | rfl <;> rfl
 simp [lf23, fillS, cLi, At.cells, h1, h2, freshQ]
 exact ⟨0, 1, ⟨rfl, rfl⟩, _, rfl, rfl, rfl, rfl, rfl, rfl⟩
def sClV : List PVal → Option (List PVal)
 | [.lst vs] => match decL cVa.dec vs with | some (_ :: l) => if l.length ≤ 1000000 then some vs else none | _ => none
 | _ => none
theorem cloneVa_ok : FnOk Tryz.prog base 101 (freshS 6 35 sClV) := by
 refine fresh_of_vc hmix Tab.none_ok globNone low101 fun args es hs hf => ?_
 unfold sClV at hs
 split at hs
 case h_2 => cases hs
 split at hs
 case h_2 => cases hs
 rename_i x l hl
 obtain ⟨rfl, wl⟩ := cVa.edL _ _ hl
 split at hs
 case isFalse => cases hs
 rename_i hlen
 cases hs
 refine ⟨by simp [lf101], ?_⟩
 have hm : maxLen = 9223372036854775807 := rfl
 have h1 : (l.length + 1) * 80 ≤ 140737488355328 := by omega
 have h2 : l.length + 1 ≤ maxLen := by omega
 simp [lf101, fillS, cVa, Va.enc, Va.cells, h1, h2, freshQ]
 exact ⟨0, 1, ⟨rfl, rfl⟩, _, rfl, rfl, rfl, rfl, rfl, rfl⟩
def sClR : List PVal → Option (List PVal)
 | [.lst vs] => match decL cRw.dec vs with | some (_ :: l) => if l.length ≤ 1000000 then some vs else none | _ => none
 | _ => none
theorem cloneRw_ok : FnOk Tryz.prog base 59 (freshS 7 58 sClR) := by
 refine fresh_of_vc hmix Tab.none_ok globNone low59 fun args es hs hf => ?_
 unfold sClR at hs
 split at hs
 case h_2 => cases hs
 split at hs
 case h_2 => cases hs
 rename_i x l hl
 obtain ⟨rfl, wl⟩ := cRw.edL _ _ hl
 split at hs
 case isFalse => cases hs
 rename_i hlen
 cases hs
 refine ⟨by simp [lf59], ?_⟩
 have hm : maxLen = 9223372036854775807 := rfl
 have h1 : (l.length + 1) * 104 ≤ 140737488355328 := by omega
 have h2 : l.length + 1 ≤ maxLen := by omega
 simp [lf59, fillS, cRw, Va.cells, h1, h2, freshQ]
 exact ⟨0, 1, ⟨rfl, rfl⟩, _, rfl, rfl, rfl, rfl, rfl, rfl⟩
end Go.Proofs.YtgbjjikaenlkmaaGreat
