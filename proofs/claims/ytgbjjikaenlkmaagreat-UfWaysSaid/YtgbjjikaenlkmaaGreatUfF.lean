/-
  Tables: where a table and a row are, their order, copies; what the document fixes. No conditions beyond the lemmas' own hypotheses.
-/
import Derived.Test.YtgbjjikaenlkmaaGreatUfE
import Derived.Test.YtgbjjikaenlkmaaGreatNatD
import Derived.Test.YtgbjjikaenlkmaaGreatAbsThree
set_option linter.unusedSimpArgs false
set_option linter.unnecessarySimpa false
set_option linter.unusedVariables false
set_option linter.constructorNameAsVariable false

/-
 uf: where a table is, where a row is.
-/
namespace Go.Proofs.YtgbjjikaenlkmaaGreat
open Go Go.Abs Go.Limbs
variable {base : Prot}
set_option maxRecDepth 20000
attribute [local irreducible] vc
attribute [local simp] pureS touchV freezeL fuel shiftV u64 au
def isRef : AVal → Bool
 | .tight _ => true
 | .own _ _ _ _ => true
 | _ => false
def nameA : AVal → Option (List UInt8)
 | .agg (.p (.str nm) :: rv :: rest) => if isRef rv = true ∧ rest.length = 6 ∧ rest.all AVal.isCell = true then some nm else none
 | _ => none
theorem nameA_some {x : AVal} {nm : List UInt8} (h : nameA x = some nm) : ∃ rv r1 r2 r3 r4 r5 r6, x = .agg [.p (.str nm), rv, r1, r2, r3, r4, r5, r6] ∧ isRef rv = true ∧ r1.isCell = true ∧ r2.isCell = true ∧ r3.isCell = true ∧ r4.isCell = true ∧ r5.isCell = true ∧ r6.isCell = true := by
 unfold nameA at h
 split at h
 ·rename_i rv rest
  split at h
  ·rename_i hc
   cases h
   obtain ⟨h1, h2, h3⟩ := hc
   match rest, h2, h3 with
   | [r1, r2, r3, r4, r5, r6], _, h3 =>
    simp only [List.all_cons, List.all_nil, Bool.and_true, Bool.and_eq_true] at h3
    exact ⟨rv, r1, r2, r3, r4, r5, r6, rfl, h1, h3⟩
  ·cases h
 ·cases h
theorem ref_agg {nm : PVal} {rv : AVal} (h : isRef rv = true) (l : List AVal) : mkAgg (.p nm :: rv :: l) = .agg (.p nm :: rv :: l) ∧ rv.isCell = true := by
 cases rv <;> first | (cases h; done) | exact ⟨rfl, rfl⟩
theorem mkAgg_p {nm : PVal} {rv : AVal} (h : isRef rv = true) (l : List AVal) : allP (.p nm :: rv :: l) = none := by
 cases rv <;> first | (cases h; done) | rfl
def madeF (H : Heap) (q w : Nat) : Option (List UInt8) := match H[q]? with
 | some e => if e.ver = w then (match e.elems with
  | [.p (.agg [.int .i64 _, .str f, .lst _])] => some f
  | _ => none) else none
 | none => none
theorem madeF_some {H : Heap} {q w : Nat} {f : List UInt8} (h : madeF H q w = some f) : ∃ e a b, H[q]? = some e ∧ e.ver = w ∧ e.elems = [.p (.agg [.int .i64 a, .str f, .lst b])] := by
 unfold madeF at h
 split at h
 ·rename_i e he
  split at h
  ·rename_i hv
   split at h
   ·rename_i a f' b hel
    cases h
    exact ⟨e, a, b, he, hv, hel⟩
   ·cases h
  ·cases h
 ·cases h
def sTb1 : List AVal → Heap → Option (AVal × Heap)
 | [x, .optr q w 0 0], H => match nameA x with
  | some nm => (match madeF H q w with
   | some f => some (.p (.bool (nm == f)), H)
   | none => none)
  | none => none
 | _, _ => none
theorem tb1_ok : MuOk Tryz.prog base 29 sTb1 := by
 refine own_of_vc' hmix Tab.none_ok globNone low29 fun args H r H' hs hf hb => ?_
 unfold sTb1 at hs
 split at hs
 case h_2 => cases hs
 rename_i x q w
 cases hx : nameA x with
 | none => rw [hx] at hs; cases hs
 | some nm =>
 rw [hx] at hs
 cases hm : madeF H q w with
 | none => rw [hm] at hs; cases hs
 | some f =>
 rw [hm] at hs
 cases hs
 obtain ⟨rv, r1, r2, r3, r4, r5, r6, rfl, c7, c1, c2, c3, c4, c5, c6⟩ := nameA_some hx
 obtain ⟨e, a, b, he, hv, hel⟩ := madeF_some hm
 obtain ⟨es, ev, ef, ee, et⟩ := e
 simp only at hv hel
 subst hv hel
 refine ⟨by simp [lf29], rfl, hb, .p _, ?_⟩
 have hl := (List.getElem?_eq_some_iff.1 he).1
 have hA : ∀ Z, (H ++ Z)[q]? = some ⟨es, ev, ef, [.p (.agg [.int .i64 a, .str f, .lst b])], et⟩ := fun Z => by rw [List.getElem?_append_left hl]; exact he
 have hb1 : binS .eql nm f = some (.bool (nm == f)) := rfl
 have c0 : (AVal.p (.str nm)).isCell = true := rfl
 have c8 := (ref_agg (nm := .str nm) c7 []).2
 simp [lf29, -AVal.isCell, c0, c1, c2, c3, c4, c5, c6, c8, hA, getT, getT0, setT, setT0, hb1, ownQ, finish, mapO, resOne, -getElem?_pos, List.getElem?_cons_zero, List.getElem?_cons_succ]
def idxN (f : List UInt8) : List AVal → Nat → Option Int
 | [], _ => some (-1)
 | x :: r, i => match nameA x with
  | some nm => if (nm == f) = true then some i else idxN f r (i + 1)
  | none => none
def sIxT : List AVal → Heap → Option (AVal × Heap)
 | [.tight [], .clo 29 [.optr _ _ 0 0]], H => some (.p (.int .i64 (-1)), H)
 | [.own k 0 n v, .clo 29 [.optr q w 0 0]], H => match H[k]? with
  | some e => if e.ver = v ∧ e.size = 8 ∧ n = e.elems.length ∧ n ≤ 1000000 then
    (match madeF H q w with
    | some f => (match idxN f e.elems 0 with | some i => some (.p (.int .i64 i), H) | none => none)
    | none => none)
   else none
  | none => none
 | _, _ => none
def Tix1 : Tab := Tab.none.own 29 sTb1
theorem Tix1_ok : TabOk Tryz.prog base Tix1 := Tab.own_ok Tab.none_ok tb1_ok
def sTb1K := sTb1
theorem Tix1_mu (a : List AVal) (H : Heap) : Tix1.mu 29 a H = sTb1K a H := rfl
theorem ixT_ok : MuOk Tryz.prog base 28 sIxT := by
 refine own_of_vc' hmix Tix1_ok globNone low28 fun args H r H' hs hf hb => ?_
 unfold sIxT at hs
 split at hs
 case h_3 => cases hs
 ·rename_i q w
  cases hs
  refine ⟨by simp [lf28], rfl, hb, .p _, ?_⟩
  simp [lf28]
  simp only [lf28_B0, vc_block]
  refine loop_ind (fun fr G => G = H ∧ fr 7 = .p (.int .i64 0) ∧ fr 8 = .p (.int .i64 0)) (fun _ _ => 0) ⟨rfl, by simp, by simp⟩ ?_
  rintro fr G ⟨rfl, f7, f8⟩
  simp [f7, f8, ownQ, finish, mapO, resOne, allP]
 ·rename_i k n v q w
  cases hk : H[k]? with
  | none => rw [hk] at hs; cases hs
  | some e =>
  rw [hk] at hs
  simp only at hs
  split at hs
  case isFalse => cases hs
  rename_i hc
  obtain ⟨h1, h2, h3, h4⟩ := hc
  cases hm : madeF H q w with
  | none => rw [hm] at hs; cases hs
  | some f =>
  rw [hm] at hs
  simp only at hs
  cases hi : idxN f e.elems 0 with
  | none => rw [hi] at hs; cases hs
  | some i =>
  rw [hi] at hs
  cases hs
  obtain ⟨es, ev, ef, ee, et⟩ := e
  simp only at h1 h2 h3 hi
  subst h1 h2 h3
  refine ⟨by simp [lf28], rfl, hb, .p _, ?_⟩
  simp [lf28, hk]
  simp only [lf28_B0, vc_block]
  refine loop_ind (fun fr G => G = H ∧ ∃ j : Nat, j ≤ ee.length ∧ fr 0 = .own k 0 ee.length ev ∧ fr 1 = .clo 29 [.optr q w 0 0] ∧ fr 7 = .p (.int .i64 ee.length) ∧ fr 8 = .p (.int .i64 j) ∧ idxN f (ee.drop j) j = some i) (fun fr _ => ee.length - ivar (fr 8)) ⟨rfl, 0, by omega, by simp, by simp, by simp, by simp, by simpa using hi⟩ ?_
  rintro fr G ⟨rfl, j, hj, f0, f1, f7, f8, hix⟩
  by_cases h : j < ee.length
  ·obtain ⟨x, hx⟩ : ∃ x, ee[j]? = some x := ⟨_, List.getElem?_eq_getElem h⟩
   have hnx := getE hx
   have hdr : ee.drop j = x :: ee.drop (j + 1) := by rw [List.drop_eq_getElem_cons h, hnx]
   rw [hdr] at hix
   simp only [idxN] at hix
   have hw := wrap_succ (i := j) (by omega)
   cases hn : nameA x with
   | none => rw [hn] at hix; cases hix
   | some nm =>
   rw [hn] at hix
   simp only at hix
   have hcall : sTb1K [x, .optr q w 0 0] G = some (.p (.bool (nm == f)), G) := by simp only [sTb1K, sTb1, hn, hm]
   obtain ⟨rv, r1, r2, r3, r4, r5, r6, rfl, c7, c1, c2, c3, c4, c5, c6⟩ := nameA_some hn
   have hma := mkAgg_p (nm := .str nm) c7 [r1, r2, r3, r4, r5, r6]
   cases hnf : (nm == f) with
   | true =>
    rw [hnf] at hix hcall
    simp only [if_true, Option.some.injEq] at hix
    subst hix
    simp [f0, f1, f7, f8, h, hk, hx, hnx, hcall, hma, Tix1_mu, ownQ, finish, mapO, resOne, allP, -getElem?_pos, List.getElem?_cons_zero, List.getElem?_cons_succ]
   | false =>
    rw [hnf] at hix hcall
    simp only [Bool.false_eq_true, if_false] at hix
    simp [f0, f1, f7, f8, h, hk, hx, hnx, hcall, hma, hw, ivar, Tix1_mu, -getElem?_pos, List.getElem?_cons_zero, List.getElem?_cons_succ]
    exact ⟨⟨j + 1, by omega, rfl, hix⟩, by omega⟩
  ·have hil : j = ee.length := by omega
   subst hil
   rw [List.drop_of_length_le (Nat.le_refl _)] at hix
   cases hix
   simp [f7, f8, ownQ, finish, mapO, resOne, allP]
end Go.Proofs.YtgbjjikaenlkmaaGreat

/-
 uf: where a row is; names in order.
-/
namespace Go.Proofs.YtgbjjikaenlkmaaGreat
open Go Go.Abs Go.Limbs
variable {base : Prot}
set_option maxRecDepth 20000
attribute [local irreducible] vc
attribute [local simp] pureS touchV freezeL fuel shiftV u64 au
def argsF (H : Heap) (q w : Nat) : Option (List Va) := match H[q]? with
 | some e => if e.ver = w then (match e.elems with
  | [.p (.lst al)] => decL cVa.dec al
  | _ => none) else none
 | none => none
theorem argsF_some {H : Heap} {q w : Nat} {l : List Va} (h : argsF H q w = some l) : cVa.wfL l ∧ ∃ e, H[q]? = some e ∧ e.ver = w ∧ e.elems = [.p (.lst (l.map Va.enc))] := by
 unfold argsF at h
 split at h
 ·rename_i e he
  split at h
  ·rename_i hv
   split at h
   ·rename_i al hel
    obtain ⟨rfl, wl⟩ := cVa.edL _ _ h
    exact ⟨wl, e, he, hv, hel⟩
   ·cases h
  ·cases h
 ·cases h
def sRow1 : List AVal → Heap → Option (AVal × Heap)
 | [.p x, .optr q w 0 0], H => match cRw.dec x with
  | some r => (match argsF H q w with
   | some l => some (.p (.bool (sameVs r.ag l)), H)
   | none => none)
  | none => none
 | _, _ => none
def Trw1 : Tab := Tab.none.with 48 (pureS sEqV)
theorem Trw1_ok : TabOk Tryz.prog base Trw1 := Tab.with_ok Tab.none_ok eqv_ok
theorem Trw1_mu (f : FuncId) (a : List AVal) (H : Heap) : Trw1.mu f a H = none := (rfl)
theorem Trw1_fns : Trw1.fn 48 = (pureS sEqV) := (rfl)
theorem row1_ok : MuOk Tryz.prog base 55 sRow1 := by
 refine own_of_vc' hmix Trw1_ok globNone low55 fun args H r H' hs hf hb => ?_
 unfold sRow1 at hs
 split at hs
 case h_2 => cases hs
 rename_i x q w
 cases hx : cRw.dec x with
 | none => rw [hx] at hs; cases hs
 | some rw' =>
 rw [hx] at hs
 simp only at hs
 cases hm : argsF H q w with
 | none => rw [hm] at hs; cases hs
 | some l =>
 rw [hm] at hs
 cases hs
 obtain ⟨rfl, wr⟩ := cRw.ed _ _ hx
 obtain ⟨wl, e, he, hv, hel⟩ := argsF_some hm
 obtain ⟨es, ev, ef, ee, et⟩ := e
 simp only at hv hel
 subst hv hel
 refine ⟨by simp [lf55], rfl, hb, .p _, ?_⟩
 have hl := (List.getElem?_eq_some_iff.1 he).1
 have hA : ∀ Z, (H ++ Z)[q]? = some ⟨es, ev, ef, [.p (.lst (l.map Va.enc))], et⟩ := fun Z => by rw [List.getElem?_append_left hl]; exact he
 have hE := sEqV_at wr.1 wl
 simp only [cRw]
 simp [lf55, Va.cells, hA, getT, getT0, setT, setT0, hE, ownQ, finish, mapO, resOne, allP, Trw1_mu, Trw1_fns, -getElem?_pos, List.getElem?_cons_zero, List.getElem?_cons_succ]
def idxR (l : List Va) : List Rw → Nat → Int
 | [], _ => -1
 | r :: t, i => if sameVs r.ag l = true then i else idxR l t (i + 1)
def rowsA (es : List AVal) : Option (List Rw) := match allP es with | some ps => decL cRw.dec ps | none => none
theorem rowsA_some {es : List AVal} {rs : List Rw} (h : rowsA es = some rs) : es = (rs.map cRw.enc).map AVal.p ∧ cRw.wfL rs := by
 unfold rowsA at h
 cases ha : allP es with
 | none => rw [ha] at h; cases h
 | some ps =>
  rw [ha] at h
  obtain ⟨rfl, w⟩ := cRw.edL _ _ h
  exact ⟨allP_some ha, w⟩
def sIxR : List AVal → Heap → Option (AVal × Heap)
 | [.tight [], .clo 55 [.optr _ _ 0 0]], H => some (.p (.int .i64 (-1)), H)
 | [.own k 0 n v, .clo 55 [.optr q w 0 0]], H => match H[k]? with
  | some e => if e.ver = v ∧ e.size = 7 ∧ n = e.elems.length ∧ n ≤ 1000000 then
    (match argsF H q w with
    | some l => (match rowsA e.elems with | some rs => some (.p (.int .i64 (idxR l rs 0)), H) | none => none)
    | none => none)
   else none
  | none => none
 | _, _ => none
def Tir : Tab := Tab.none.own 55 sRow1
theorem Tir_ok : TabOk Tryz.prog base Tir := Tab.own_ok Tab.none_ok row1_ok
def sRow1K := sRow1
theorem Tir_mu (a : List AVal) (H : Heap) : Tir.mu 55 a H = sRow1K a H := rfl
theorem ixR_ok : MuOk Tryz.prog base 54 sIxR := by
 refine own_of_vc' hmix Tir_ok globNone low54 fun args H r H' hs hf hb => ?_
 unfold sIxR at hs
 split at hs
 case h_3 => cases hs
 ·rename_i q w
  cases hs
  refine ⟨by simp [lf54], rfl, hb, .p _, ?_⟩
  simp [lf54]
  simp only [lf54_B0, vc_block]
  refine loop_ind (fun fr G => G = H ∧ fr 7 = .p (.int .i64 0) ∧ fr 8 = .p (.int .i64 0)) (fun _ _ => 0) ⟨rfl, by simp, by simp⟩ ?_
  rintro fr G ⟨rfl, f7, f8⟩
  simp [f7, f8, ownQ, finish, mapO, resOne, allP]
 ·rename_i k n v q w
  cases hk : H[k]? with
  | none => rw [hk] at hs; cases hs
  | some e =>
  rw [hk] at hs
  simp only at hs
  split at hs
  case isFalse => cases hs
  rename_i hc
  obtain ⟨h1, h2, h3, h4⟩ := hc
  cases hm : argsF H q w with
  | none => rw [hm] at hs; cases hs
  | some l =>
  rw [hm] at hs
  simp only at hs
  cases hi : rowsA e.elems with
  | none => rw [hi] at hs; cases hs
  | some rs =>
  rw [hi] at hs
  cases hs
  obtain ⟨es, ev, ef, ee, et⟩ := e
  simp only at h1 h2 h3 hi
  obtain ⟨rfl, wrs⟩ := rowsA_some hi
  simp only [List.length_map] at h3
  subst h1 h2 h3
  refine ⟨by simp [lf54], rfl, hb, .p _, ?_⟩
  simp [lf54, hk]
  simp only [lf54_B0, vc_block]
  refine loop_ind (fun fr G => G = H ∧ ∃ j : Nat, j ≤ rs.length ∧ fr 0 = .own k 0 rs.length ev ∧ fr 1 = .clo 55 [.optr q w 0 0] ∧ fr 7 = .p (.int .i64 rs.length) ∧ fr 8 = .p (.int .i64 j) ∧ idxR l (rs.drop j) j = idxR l rs 0) (fun fr _ => rs.length - ivar (fr 8)) ⟨rfl, 0, by omega, by simp, by simp, by simp, by simp, by simp⟩ ?_
  rintro fr G ⟨rfl, j, hj, f0, f1, f7, f8, hix⟩
  by_cases h : j < rs.length
  ·obtain ⟨x, hx⟩ : ∃ x, rs[j]? = some x := ⟨_, List.getElem?_eq_getElem h⟩
   have hnx := getE hx
   have hdr : rs.drop j = x :: rs.drop (j + 1) := by rw [List.drop_eq_getElem_cons h, hnx]
   rw [hdr] at hix
   simp only [idxR] at hix
   have hw := wrap_succ (i := j) (by omega)
   have hcall : sRow1K [.p (cRw.enc x), .optr q w 0 0] G = some (.p (.bool (sameVs x.ag l)), G) := by simp only [sRow1K, sRow1, cRw.de x (wrs x (List.mem_of_getElem? hx)), hm]
   have hxe : cRw.enc x = .agg [.lst (x.ag.map Va.enc), .int .i64 x.v.k, .bool x.v.b, .bool x.v.x.s, .lst (x.v.x.n.map u64), .lst (x.v.x.d.map u64), .int .i64 x.v.el] := rfl
   rw [hxe] at hcall
   cases hnf : sameVs x.ag l with
   | true =>
    rw [hnf] at hix hcall
    simp only [if_true] at hix
    rw [← hix]
    simp [f0, f1, f7, f8, h, hk, hx, hnx, hcall, hxe, Tir_mu, ownQ, finish, mapO, resOne, allP, -getElem?_pos, List.getElem?_cons_zero, List.getElem?_cons_succ]
   | false =>
    rw [hnf] at hix hcall
    simp only [Bool.false_eq_true, if_false] at hix
    simp [f0, f1, f7, f8, h, hk, hx, hnx, hcall, hxe, hw, ivar, Tir_mu, -getElem?_pos, List.getElem?_cons_zero, List.getElem?_cons_succ]
    exact ⟨⟨j + 1, by omega, rfl, hix⟩, by omega⟩
  ·have hil : j = rs.length := by omega
   subst hil
   rw [List.drop_of_length_le (Nat.le_refl _)] at hix
   rw [← hix]
   simp [f7, f8, idxR, ownQ, finish, mapO, resOne, allP]
def rowsAt (H : Heap) : AVal → Option (List Rw)
 | .tight [] => some []
 | .own k 0 n v => match H[k]? with
  | some e => if e.ver = v ∧ e.size = 7 ∧ n = e.elems.length ∧ n ≤ 1000000 then rowsA e.elems else none
  | none => none
 | _ => none
def sRow : List AVal → Heap → Option (AVal × Heap)
 | [.agg (.p nm :: rv :: rest), .p (.lst al)], H => match nameA (.agg (.p nm :: rv :: rest)) with
  | some _ => (match rowsAt H rv with
   | some rs => (match decL cVa.dec al with
    | some l => some (.p (.int .i64 (idxR l rs 0)), H)
    | none => none)
   | none => none)
  | none => none
 | _, _ => none
def Tro24 : Tab := Tab.none.own 54 sIxR
theorem Tro24_ok : TabOk Tryz.prog base Tro24 := Tab.own_ok Tab.none_ok ixR_ok
def sIxRK := sIxR
theorem Tro24_mu (a : List AVal) (H : Heap) : Tro24.mu 54 a H = sIxRK a H := rfl
theorem urow_ok : MuOk Tryz.prog base 31 sRow := by
 refine own_of_vc' hmix Tro24_ok globNone low31 fun args H r H' hs hf hb => ?_
 unfold sRow at hs
 split at hs
 case h_2 => cases hs
 rename_i nm rv rest al
 cases hn : nameA (.agg (.p nm :: rv :: rest)) with
 | none => rw [hn] at hs; cases hs
 | some nm' =>
 rw [hn] at hs
 simp only at hs
 cases hr : rowsAt H rv with
 | none => rw [hr] at hs; cases hs
 | some rs =>
 rw [hr] at hs
 simp only at hs
 cases ha : decL cVa.dec al with
 | none => rw [ha] at hs; cases hs
 | some l =>
 rw [ha] at hs
 cases hs
 obtain ⟨rfl, wl⟩ := cVa.edL _ _ ha
 obtain ⟨rv', r1, r2, r3, r4, r5, r6, he, c7, c1, c2, c3, c4, c5, c6⟩ := nameA_some hn
 cases he
 refine ⟨by simp [lf31], rfl, hb, .p _, ?_⟩
 have c0 : (AVal.p (.str nm')).isCell = true := rfl
 have c8 := (ref_agg (nm := .str nm') c7 []).2
 have c9 : (AVal.p (.lst (l.map Va.enc))).isCell = true := rfl
 have e0 : cVa.enc = Va.enc := rfl
 rw [e0]
 have harg : ∀ (z : Ent), argsF (H ++ [z, ⟨1, 0, false, [.p (.lst (l.map Va.enc))], 56⟩]) (H.length + 1) 0 = some l := fun z => by
  unfold argsF
  rw [getT]
  simp only [List.getElem?_cons_succ, List.getElem?_cons_zero, if_true]
  exact cVa.deL l wl
 have hcall : ∀ (z : Ent), sIxRK [rv, .clo 55 [.optr (H.length + 1) 0 0 0]] (H ++ [z, ⟨1, 0, false, [.p (.lst (l.map Va.enc))], 56⟩]) = some (.p (.int .i64 (idxR l rs 0)), H ++ [z, ⟨1, 0, false, [.p (.lst (l.map Va.enc))], 56⟩]) := fun z => by
  unfold rowsAt at hr
  split at hr
  ·cases hr; rfl
  ·rename_i k n v
   cases hk : H[k]? with
   | none => rw [hk] at hr; cases hr
   | some e =>
   rw [hk] at hr
   simp only at hr
   split at hr
   case isFalse => cases hr
   rename_i hc
   have hkl := (List.getElem?_eq_some_iff.1 hk).1
   simp only [sIxRK, sIxR]
   rw [List.getElem?_append_left hkl, hk]
   simp only
   rw [if_pos hc, harg]
   simp only [hr]
  ·cases hr
 simp [lf31, -AVal.isCell, c0, c1, c2, c3, c4, c5, c6, c8, c9, getT, getT0, setT, setT0, mkClo, allP, hcall, Tro24_mu, ownQ, finish, mapO, resOne, -getElem?_pos, List.getElem?_cons_zero, List.getElem?_cons_succ]
end Go.Proofs.YtgbjjikaenlkmaaGreat

/-
 uf: tables in the order of their names (up to two tables).
-/
namespace Go.Proofs.YtgbjjikaenlkmaaGreat
open Go Go.Abs Go.Limbs
variable {base : Prot}
set_option maxRecDepth 20000
attribute [local irreducible] vc
attribute [local simp] pureS touchV freezeL fuel shiftV u64 au
def sNaS : List PVal → Option PVal
 | [.str _] => some (.bool false)
 | _ => none
theorem nas_ok : FnOk Tryz.prog base 58 (pureS sNaS) := by
 refine pure_of_vc hmix Tab.none_ok globNone low58 fun args z hs hf => ?_
 unfold sNaS at hs
 split at hs
 case h_2 => cases hs
 rename_i x
 cases hs
 have e1 : binS .neq x x = some (.bool (!(x == x))) := rfl
 exact ⟨by simp [lf58], by simp [lf58, e1]⟩
def cmpS (a b : List UInt8) : Int := if Op.bytesLess a b = true then -1 else if (!(Op.bytesLess a b || a == b)) = true then 1 else 0
def sCmS : List PVal → Option PVal
 | [.str a, .str b] => some (.int .i64 (cmpS a b))
 | _ => none
def Tcms : Tab := Tab.none.with 58 (pureS sNaS)
theorem Tcms_ok : TabOk Tryz.prog base Tcms := Tab.with_ok Tab.none_ok nas_ok
theorem Tcms_mu (f : FuncId) (a : List AVal) (H : Heap) : Tcms.mu f a H = none := (rfl)
theorem Tcms_fns : Tcms.fn 58 = (pureS sNaS) := (rfl)
theorem cms_ok : FnOk Tryz.prog base 34 (pureS sCmS) := by
 refine pure_of_vc hmix Tcms_ok globNone low34 fun args z hs hf => ?_
 unfold sCmS at hs
 split at hs
 case h_2 => cases hs
 rename_i a b
 cases hs
 have e1 : binS .lss a b = some (.bool (Op.bytesLess a b)) := rfl
 have e2 : binS .gtr a b = some (.bool (!(Op.bytesLess a b || a == b))) := rfl
 refine ⟨by simp [lf34], ?_⟩
 cases h1 : Op.bytesLess a b with
 | true => simp [lf34, sNaS, e1, e2, cmpS, h1, Tcms_mu, Tcms_fns]
 | false =>
  cases h2 : (a == b) with
  | true => simp [-beq_iff_eq, lf34, sNaS, e1, e2, cmpS, h1, h2, Tcms_mu, Tcms_fns]
  | false => simp [-beq_iff_eq, -beq_eq_false_iff_ne, lf34, sNaS, e1, e2, cmpS, h1, h2, Tcms_mu, Tcms_fns]
def sTb2 : List AVal → Heap → Option (AVal × Heap)
 | [x, y], H => match nameA x with
  | some f => (match nameA y with
   | some g => some (.p (.int .i64 (cmpS f g)), H)
   | none => none)
  | none => none
 | _, _ => none
def Ttb2 : Tab := Tab.none.with 34 (pureS sCmS)
theorem Ttb2_ok : TabOk Tryz.prog base Ttb2 := Tab.with_ok Tab.none_ok cms_ok
theorem Ttb2_mu (f : FuncId) (a : List AVal) (H : Heap) : Ttb2.mu f a H = none := (rfl)
theorem Ttb2_fns : Ttb2.fn 34 = (pureS sCmS) := (rfl)
theorem tb2_ok : MuOk Tryz.prog base 33 sTb2 := by
 refine own_of_vc' hmix Ttb2_ok globNone low33 fun args H r H' hs hf hb => ?_
 unfold sTb2 at hs
 split at hs
 case h_2 => cases hs
 rename_i x y
 cases hx : nameA x with
 | none => rw [hx] at hs; cases hs
 | some f =>
 rw [hx] at hs
 simp only at hs
 cases hy : nameA y with
 | none => rw [hy] at hs; cases hs
 | some g =>
 rw [hy] at hs
 cases hs
 obtain ⟨rv, r1, r2, r3, r4, r5, r6, rfl, c7, c1, c2, c3, c4, c5, c6⟩ := nameA_some hx
 obtain ⟨sv, s1, s2, s3, s4, s5, s6, rfl, d7, d1, d2, d3, d4, d5, d6⟩ := nameA_some hy
 refine ⟨by simp [lf33], rfl, hb, .p _, ?_⟩
 have c0 : (AVal.p (.str f)).isCell = true := rfl
 have c8 := (ref_agg (nm := .str f) c7 []).2
 have d0 : (AVal.p (.str g)).isCell = true := rfl
 have d8 := (ref_agg (nm := .str g) d7 []).2
 simp [lf33, -AVal.isCell, c0, c1, c2, c3, c4, c5, c6, c8, d0, d1, d2, d3, d4, d5, d6, d8, getT, getT0, setT, setT0, sCmS, Ttb2_mu, Ttb2_fns, ownQ, finish, mapO, resOne, allP, -getElem?_pos, List.getElem?_cons_zero, List.getElem?_cons_succ]
def sortA : List AVal → Option (List AVal)
 | [] => some []
 | [x] => some [x]
 | [x, y] => match nameA x with
  | some f => (match nameA y with
   | some g => if Op.bytesLess g f = true then some [y, x] else some [x, y]
   | none => none)
  | none => none
 | _ => none
def sIns : List AVal → Heap → Option (AVal × Heap)
 | [.own k 0 n v, .p (.int .i64 0), .p (.int .i64 m), .p (.clo 33 [])], H => match H[k]? with
  | some e => if e.ver = v ∧ e.size = 8 ∧ e.froz = false ∧ n = e.elems.length ∧ m = n then
    (match sortA e.elems with
    | some l => some (.p (.tup []), H.set k ⟨e.size, e.ver, e.froz, l, e.ty⟩)
    | none => none)
   else none
  | none => none
 | [.tight [], .p (.int .i64 0), .p (.int .i64 0), .p (.clo 33 [])], H => some (.p (.tup []), H)
 | _, _ => none
def Tins : Tab := Tab.none.own 33 sTb2
theorem Tins_ok : TabOk Tryz.prog base Tins := Tab.own_ok Tab.none_ok tb2_ok
def sTb2K := sTb2
theorem Tins_mu (a : List AVal) (H : Heap) : Tins.mu 33 a H = sTb2K a H := rfl
theorem set_self {α : Type} {l : List α} {k : Nat} {e : α} (h : l[k]? = some e) : l.set k e = l := by
 obtain ⟨hk, h'⟩ := List.getElem?_eq_some_iff.1 h
 subst h'
 exact List.set_getElem_self hk
theorem less_cmp (a b : List UInt8) : decide (cmpS a b < 0) = Op.bytesLess a b := by
 unfold cmpS
 cases Op.bytesLess a b with
 | true => simp
 | false => simp; split <;> simp
theorem ins_ok : MuOk Tryz.prog base 91 sIns := by
 refine own_of_vc hmix Tins_ok globNone low91 fun args H r H' hs hf => ?_
 unfold sIns at hs
 split at hs
 case h_3 => cases hs
 case h_2 =>
  cases hs
  have w01 : IntKind.i64.wrap 1 = 1 := by decide
  refine ⟨by simp [lf91], ?_⟩
  simp [lf91, w01]
  simp only [lf91_B1, vc_block]
  refine loop_ind (fun fr G => G = H ∧ fr 2 = .p (.int .i64 0) ∧ fr 8 = .p (.int .i64 1)) (fun _ _ => 0) ⟨rfl, by simp, by simp⟩ ?_
  rintro fr G ⟨rfl, f2, f8⟩
  simp [f2, f8, retQ, finish, mapO]
 rename_i k n v m
 cases hk : H[k]? with
 | none => rw [hk] at hs; cases hs
 | some e =>
 rw [hk] at hs
 simp only at hs
 split at hs
 case isFalse => cases hs
 rename_i hc
 obtain ⟨es, ev, ef, ee, et⟩ := e
 obtain ⟨h1, h2, h3, h4, h5⟩ := hc
 simp only at h1 h2 h3 h4 hs
 subst h1 h2 h3 h4 h5
 cases hso : sortA ee with
 | none => rw [hso] at hs; cases hs
 | some l =>
 rw [hso] at hs
 cases hs
 refine ⟨by simp [lf91], ?_⟩
 have w01 : IntKind.i64.wrap 1 = 1 := by decide
 have w02 : IntKind.i64.wrap 2 = 2 := by decide
 have w00 : IntKind.i64.wrap 0 = 0 := by decide
 simp [lf91, w01]
 simp only [lf91_B1, vc_block]
 match ee, hso with
 | [], hso =>
  cases hso
  refine loop_ind (fun fr G => G = H ∧ fr 2 = .p (.int .i64 0) ∧ fr 8 = .p (.int .i64 1)) (fun _ _ => 0) ⟨rfl, by simp, by simp⟩ ?_
  rintro fr G ⟨rfl, f2, f8⟩
  simp [f2, f8, retQ, finish, mapO, set_self hk]
 | [x], hso =>
  cases hso
  refine loop_ind (fun fr G => G = H ∧ fr 2 = .p (.int .i64 1) ∧ fr 8 = .p (.int .i64 1)) (fun _ _ => 0) ⟨rfl, by simp, by simp⟩ ?_
  rintro fr G ⟨rfl, f2, f8⟩
  simp [f2, f8, retQ, finish, mapO, set_self hk]
 | [x, y], hso =>
  have hkl := (List.getElem?_eq_some_iff.1 hk).1
  simp only [sortA] at hso
  cases hx : nameA x with
  | none => rw [hx] at hso; cases hso
  | some f =>
  rw [hx] at hso
  simp only at hso
  cases hy : nameA y with
  | none => rw [hy] at hso; cases hso
  | some g =>
  rw [hy] at hso
  simp only at hso
  have hcall : sTb2K [y, x] H = some (.p (.int .i64 (cmpS g f)), H) := by simp only [sTb2K, sTb2, hx, hy]
  have hlc := less_cmp g f
  obtain ⟨rv, r1, r2, r3, r4, r5, r6, rfl, c7, c1, c2, c3, c4, c5, c6⟩ := nameA_some hx
  obtain ⟨sv, s1, s2, s3, s4, s5, s6, rfl, d7, d1, d2, d3, d4, d5, d6⟩ := nameA_some hy
  have c0 : (AVal.p (.str f)).isCell = true := rfl
  have c8 := (ref_agg (nm := .str f) c7 []).2
  have d0 : (AVal.p (.str g)).isCell = true := rfl
  have d8 := (ref_agg (nm := .str g) d7 []).2
  have mx := mkAgg_p (nm := .str f) c7 [r1, r2, r3, r4, r5, r6]
  have my := mkAgg_p (nm := .str g) d7 [s1, s2, s3, s4, s5, s6]
  refine loop_ind (fun fr G => fr 0 = .own k 0 2 ev ∧ fr 1 = .p (.int .i64 0) ∧ fr 2 = .p (.int .i64 2) ∧ fr 3 = .p (.clo 33 []) ∧ ((G = H ∧ fr 8 = .p (.int .i64 1)) ∨ (G = H.set k ⟨8, ev, false, l, et⟩ ∧ fr 8 = .p (.int .i64 2)))) (fun fr _ => 2 - ivar (fr 8)) ⟨by simp, by simp, by simp, by simp, .inl ⟨rfl, by simp⟩⟩ ?_
  rintro fr G ⟨f0, f1, f2, f3, ⟨rfl, f8⟩ | ⟨rfl, f8⟩⟩
  ·simp [f2, f8]
   simp only [lf91_B0, vc_block]
   cases hb : Op.bytesLess g f with
   | false =>
    rw [hb] at hso hlc
    cases hso
    rw [set_self hk]
    have hlc' : ¬ cmpS g f < 0 := by simpa using hlc
    refine loop_ind (fun fr' G' => G' = G ∧ fr' 0 = .own k 0 2 ev ∧ fr' 1 = .p (.int .i64 0) ∧ fr' 2 = .p (.int .i64 2) ∧ fr' 3 = .p (.clo 33 []) ∧ fr' 8 = .p (.int .i64 1) ∧ fr' 9 = .p (.int .i64 1)) (fun _ _ => 0) ⟨rfl, by simp [f0], by simp [f1], by simp [f2], by simp [f3], by simp [f8], by simp⟩ ?_
    rintro fr' G' ⟨rfl, g0, g1, g2, g3, g8, g9⟩
    simp [g0, g1, g2, g3, g8, g9, w00, w02, hk, hcall, hlc', mx, my, Tins_mu, ivar, -getElem?_pos, List.getElem?_cons_zero, List.getElem?_cons_succ]
   | true =>
    rw [hb] at hso hlc
    cases hso
    have hlc' : cmpS g f < 0 := by simpa using hlc
    refine loop_ind (fun fr' G' => fr' 0 = .own k 0 2 ev ∧ fr' 1 = .p (.int .i64 0) ∧ fr' 2 = .p (.int .i64 2) ∧ fr' 3 = .p (.clo 33 []) ∧ fr' 8 = .p (.int .i64 1) ∧ ((G' = G ∧ fr' 9 = .p (.int .i64 1)) ∨ (G' = G.set k ⟨8, ev, false, [.agg [.p (.str g), sv, s1, s2, s3, s4, s5, s6], .agg [.p (.str f), rv, r1, r2, r3, r4, r5, r6]], et⟩ ∧ fr' 9 = .p (.int .i64 0)))) (fun fr' _ => ivar (fr' 9)) ⟨by simp [f0], by simp [f1], by simp [f2], by simp [f3], by simp [f8], .inl ⟨rfl, by simp⟩⟩ ?_
    rintro fr' G' ⟨g0, g1, g2, g3, g8, ⟨rfl, g9⟩ | ⟨rfl, g9⟩⟩
    ·simp [g0, g1, g2, g3, g8, g9, w00, w02, hk, hkl, hcall, hlc', mx, my, Tins_mu, ivar, getT, setT, -AVal.isCell, c0, c1, c2, c3, c4, c5, c6, c8, d0, d1, d2, d3, d4, d5, d6, d8, -getElem?_pos, List.getElem?_cons_zero, List.getElem?_cons_succ]
     rw [vc_regionW]
     refine ⟨[], ?_⟩
     simp [g0, g1, g2, g3, g8, g9, w00, w02, hk, hkl, hcall, hlc', mx, my, Tins_mu, ivar, getT, setT, -AVal.isCell, c0, c1, c2, c3, c4, c5, c6, c8, d0, d1, d2, d3, d4, d5, d6, d8, -getElem?_pos, List.getElem?_cons_zero, List.getElem?_cons_succ]
    ·simp [g0, g1, g2, g3, g8, g9, w02, ivar]
  ·simp [f2, f8, retQ, finish, mapO]
def sPdq : List AVal → Heap → Option (AVal × Heap)
 | [.own k 0 n v, .p (.int .i64 0), .p (.int .i64 m), .p (.int .i64 _), .p (.clo 33 [])], H => if m ≤ 12 then sIns [.own k 0 n v, .p (.int .i64 0), .p (.int .i64 m), .p (.clo 33 [])] H else none
 | [.tight [], .p (.int .i64 0), .p (.int .i64 0), .p (.int .i64 _), .p (.clo 33 [])], H => some (.p (.tup []), H)
 | _, _ => none
def Tpdq : Tab := Tab.none.own 91 sIns
theorem Tpdq_ok : TabOk Tryz.prog base Tpdq := Tab.own_ok Tab.none_ok ins_ok
def sInsK := sIns
theorem Tpdq_mu (a : List AVal) (H : Heap) : Tpdq.mu 91 a H = sInsK a H := rfl
theorem sIns_tup {a : List AVal} {H H' : Heap} {r : AVal} (h : sIns a H = some (r, H')) : r = .p (.tup []) := by
 unfold sIns at h
 split at h
 ·split at h
  ·split at h
   ·split at h
    ·cases h; rfl
    ·cases h
   ·cases h
  ·cases h
 ·cases h; rfl
 ·cases h
theorem pdq_ok : MuOk Tryz.prog base 56 sPdq := by
 refine own_of_vc hmix Tpdq_ok globNone low56 fun args H r H' hs hf => ?_
 have key : ∃ x m lim, args = [x, .p (.int .i64 0), .p (.int .i64 m), .p (.int .i64 lim), .p (.clo 33 [])] ∧ 0 ≤ m ∧ m ≤ 12 ∧ sInsK [x, .p (.int .i64 0), .p (.int .i64 m), .p (.clo 33 [])] H = some (r, H') := by
  unfold sPdq at hs
  split at hs
  ·rename_i k n v m lim
   split at hs
   case isFalse => cases hs
   rename_i hm
   refine ⟨_, m, lim, rfl, ?_, hm, hs⟩
   simp only [sIns] at hs
   split at hs
   ·split at hs
    ·rename_i hc; omega
    ·cases hs
   ·cases hs
  ·rename_i lim
   exact ⟨_, 0, lim, rfl, by omega, by omega, hs⟩
  ·cases hs
 obtain ⟨x, m, lim, rfl, hm0, hm, hins⟩ := key
 have hr := sIns_tup hins
 subst hr
 refine ⟨by simp [lf56], ?_⟩
 have hw : IntKind.i64.wrap m = m := IntWalk.i64_in _ (by omega)
 simp [lf56]
 simp only [lf56_B0, vc_block]
 refine loop_ind (fun fr G => G = H ∧ fr 0 = x ∧ fr 1 = .p (.int .i64 0) ∧ fr 2 = .p (.int .i64 m) ∧ fr 4 = .p (.clo 33 [])) (fun _ _ => 0) ⟨rfl, by simp, by simp, by simp, by simp⟩ ?_
 rintro fr G ⟨rfl, f0, f1, f2, f4⟩
 simp [f0, f1, f2, f4, hw, hm, hins, Tpdq_mu, retQ, finish, mapO]
def sLenB : List PVal → Option PVal
 | [.int .u64 x] => if 0 ≤ x ∧ x < 3 then some (.int .i64 x) else none
 | _ => none
def TlenB : Tab := Tab.none.with 100 (pureS sLen64)
theorem TlenB_ok : TabOk Tryz.prog base TlenB := Tab.with_ok Tab.none_ok len64_ok
theorem TlenB_mu (f : FuncId) (a : List AVal) (H : Heap) : TlenB.mu f a H = none := (rfl)
theorem TlenB_fns : TlenB.fn 100 = (pureS sLen64) := (rfl)
theorem lenB_ok : FnOk Tryz.prog base 57 (pureS sLenB) := by
 refine pure_of_vc hmix TlenB_ok globNone low57 fun args z hs hf => ?_
 unfold sLenB at hs
 split at hs
 case h_2 => cases hs
 rename_i x
 split at hs
 case isFalse => cases hs
 rename_i hc
 cases hs
 refine ⟨by simp [lf57], ?_⟩
 have h3 : x = 0 ∨ x = 1 ∨ x = 2 := by omega
 have e : sLen64 [.int .u64 x] = some (.int .i64 x) := by
  rcases h3 with rfl | rfl | rfl <;> rfl
 simp [lf57, e, TlenB_mu, TlenB_fns]
def sSrt : List AVal → Heap → Option (AVal × Heap)
 | [.own k 0 n v, .p (.clo 33 [])], H => match H[k]? with
  | some e => if e.ver = v ∧ e.size = 8 ∧ e.froz = false ∧ n = e.elems.length then
    (match sortA e.elems with
    | some l => some (.p (.tup []), H.set k ⟨e.size, e.ver, e.froz, l, e.ty⟩)
    | none => none)
   else none
  | none => none
 | [.tight [], .p (.clo 33 [])], H => some (.p (.tup []), H)
 | _, _ => none
def sPdqK := sPdq
def Tsrt : Tab := (Tab.none.with 57 (pureS sLenB)).own 56 sPdq
theorem Tsrt_ok : TabOk Tryz.prog base Tsrt := Tab.own_ok (Tab.with_ok Tab.none_ok lenB_ok) pdq_ok
theorem Tsrt_mu (a : List AVal) (H : Heap) : Tsrt.mu 56 a H = sPdqK a H := rfl
theorem Tsrt_mu' (a : List AVal) (H : Heap) : Tsrt.mu 57 a H = none := rfl
theorem Tsrt_fn : Tsrt.fn 57 = pureS sLenB := rfl
theorem sortA_len {l m : List AVal} (h : sortA l = some m) : l.length ≤ 2 ∧ m.length = l.length := by
 unfold sortA at h
 split at h
 ·cases h; exact ⟨by simp, rfl⟩
 ·cases h; exact ⟨by simp, rfl⟩
 ·split at h
  ·split at h
   ·split at h <;> (cases h; exact ⟨by simp, rfl⟩)
   ·cases h
  ·cases h
 ·cases h
theorem srt_ok : MuOk Tryz.prog base 32 sSrt := by
 refine own_of_vc hmix Tsrt_ok globNone low32 fun args H r H' hs hf => ?_
 unfold sSrt at hs
 split at hs
 case h_3 => cases hs
 case h_2 =>
  cases hs
  refine ⟨by simp [lf32], ?_⟩
  have hw : IntKind.u64.wrap 0 = 0 := by decide
  have hcall : sPdqK [.tight [], .p (.int .i64 0), .p (.int .i64 0), .p (.int .i64 0), .p (.clo 33 [])] H = some (.p (.tup []), H) := rfl
  simp [lf32, hw, hcall, sLenB, Tsrt_mu, Tsrt_mu', Tsrt_fn, retQ, finish, mapO]
 rename_i k n v
 cases hk : H[k]? with
 | none => rw [hk] at hs; cases hs
 | some e =>
 rw [hk] at hs
 simp only at hs
 split at hs
 case isFalse => cases hs
 rename_i hc
 obtain ⟨es, ev, ef, ee, et⟩ := e
 obtain ⟨h1, h2, h3, h4⟩ := hc
 simp only at h1 h2 h3 h4 hs
 subst h1 h2 h3 h4
 cases hso : sortA ee with
 | none => rw [hso] at hs; cases hs
 | some l =>
 rw [hso] at hs
 cases hs
 have hle := sortA_len hso
 refine ⟨by simp [lf32], ?_⟩
 have hw : IntKind.u64.wrap (ee.length : Int) = ee.length := by
  have h3 : ee.length = 0 ∨ ee.length = 1 ∨ ee.length = 2 := by omega
  rcases h3 with h | h | h <;> (rw [h]; decide)
 have hcall : sPdqK [.own k 0 ee.length ev, .p (.int .i64 0), .p (.int .i64 ee.length), .p (.int .i64 ee.length), .p (.clo 33 [])] H = some (.p (.tup []), H.set k ⟨8, ev, false, l, et⟩) := by
  simp only [sPdqK, sPdq]
  rw [if_pos (by omega)]
  simp only [sIns, hk, true_and, hso, if_true]
 have hL : sLenB [.int .u64 ee.length] = some (.int .i64 ee.length) := by
  simp only [sLenB]
  rw [if_pos (by omega)]
 simp [lf32, hk, hw, hcall, hL, Tsrt_mu, Tsrt_mu', Tsrt_fn, retQ, finish, mapO]
end Go.Proofs.YtgbjjikaenlkmaaGreat

/-
 uf: copies of values and of tables.
-/
namespace Go.Proofs.YtgbjjikaenlkmaaGreat
open Go Go.Abs Go.Limbs
variable {base : Prot}
set_option maxRecDepth 20000
attribute [local irreducible] vc
attribute [local simp] pureS touchV freezeL fuel shiftV u64 au
theorem shiftE_p (m : Nat) (sz v : Nat) (fz : Bool) (L : List PVal) (t : TypeId) : shiftE m ⟨sz, v, fz, L.map AVal.p, t⟩ = ⟨sz, v, fz, L.map AVal.p, t⟩ := by
 simp [shiftE, Function.comp_def]
def smallV (v : Va) : Bool := v.x.small
def ownsP (l : List Va) : Option PVal := if l ≠ [] ∧ l.length ≤ 1000000 ∧ l.all smallV = true then some (.lst (l.map Va.enc)) else none
def Tows : Tab := (Tab.none.with 101 (freshS 6 35 sClV)).with 61 (pureS (sp1 cVa ownP))
theorem Tows_ok : TabOk Tryz.prog base Tows := Tab.with_ok (Tab.with_ok Tab.none_ok cloneVa_ok) mown_ok
theorem Tows_mu (f : FuncId) (a : List AVal) (H : Heap) : Tows.mu f a H = none := (rfl)
theorem Tows_fns : Tows.fn 101 = (freshS 6 35 sClV) ∧ Tows.fn 61 = (pureS (sp1 cVa ownP)) := ⟨rfl, rfl⟩
theorem owns_ok : FnOk Tryz.prog base 60 (pureS (sp1 cVa.lst ownsP)) := by
 refine pure_of_vc hmix Tows_ok globNone low60 fun args z hs hf => ?_
 obtain ⟨l, wl, rfl, hz⟩ := sp1_some hs
 unfold ownsP at hz
 split at hz
 case isFalse => cases hz
 rename_i hc
 obtain ⟨hne, hlen, hall⟩ := hc
 cases hz
 refine ⟨by simp [lf60], ?_⟩
 have hen : cVa.lst.enc l = .lst (l.map Va.enc) := rfl
 have hcl : freshS 6 35 sClV [.lst (l.map Va.enc)] = some (.own 0 0 l.length 0, [⟨6, 0, false, (l.map Va.enc).map .p, 35⟩]) := by
  have h1 : sClV [.lst (l.map Va.enc)] = some (l.map Va.enc) := by
   have h2 : decL cVa.dec (l.map Va.enc) = some l := cVa.deL l wl
   simp only [sClV, h2]
   cases l with
   | nil => exact absurd rfl hne
   | cons a r =>
    simp only [List.length_cons] at hlen ⊢
    rw [if_pos (by omega)]
  simp only [freshS, h1, List.length_map]
 rw [hen]
 simp [lf60, hcl, shiftE_p, Tows_mu, Tows_fns, -List.map_map]
 simp only [lf60_B0, vc_block]
 refine loop_ind (fun fr G => G = [⟨6, 0, false, (l.map Va.enc).map .p, 35⟩] ∧ ∃ j : Nat, j ≤ l.length ∧ fr 3 = .own 0 0 l.length 0 ∧ fr 8 = .p (.int .i64 l.length) ∧ fr 9 = .p (.int .i64 j)) (fun fr _ => l.length - ivar (fr 9)) ⟨rfl, 0, by omega, by simp, by simp, by simp⟩ ?_
 rintro fr G ⟨rfl, j, hj, f3, f8, f9⟩
 by_cases h : j < l.length
 ·obtain ⟨x, hx⟩ : ∃ x, l[j]? = some x := ⟨_, List.getElem?_eq_getElem h⟩
  have hnx := getE hx
  have hw := wrap_succ (i := j) (by omega)
  have hxm := List.mem_of_getElem? hx
  have hsm : x.x.small = true := List.all_eq_true.1 hall x hxm
  have ho : sp1 cVa ownP [x.enc] = some x.enc := (sp1_at (A := cVa) (x := x) (wl x hxm)).trans (if_pos hsm)
  have hset : ((l.map Va.enc).map AVal.p).set j (.p x.enc) = (l.map Va.enc).map .p := by
   apply set_self
   simp [hx]
  have hget : ((l.map Va.enc).map AVal.p)[j]? = some (.p x.enc) := by simp [hx]
  have hlv : ((l.map Va.enc).map AVal.p).length = l.length := by simp
  obtain ⟨vs, hvs⟩ : ∃ t, t = (l.map Va.enc).map AVal.p := ⟨_, rfl⟩
  rw [← hvs] at hset hget hlv ⊢
  have hxe : x.enc = .agg [.int .i64 x.k, .bool x.b, .bool x.x.s, .lst (x.x.n.map u64), .lst (x.x.d.map u64), .int .i64 x.el] := rfl
  rw [hxe] at ho hset hget
  simp [f3, f8, f9, h, hw, hget, hset, hlv, ho, ivar, Tows_mu, Tows_fns, -getElem?_pos, List.getElem?_cons_zero, List.getElem?_cons_succ]
  exact ⟨⟨j + 1, by omega, rfl⟩, by omega⟩
 ·have hil : j = l.length := by omega
  subst hil
  have hLl : (l.map Va.enc).length = l.length := by simp
  obtain ⟨L, hL⟩ : ∃ t, t = l.map Va.enc := ⟨_, rfl⟩
  rw [← hL] at hLl ⊢
  rw [← hLl]
  simp [f3, f8, f9, ← hLl, mapO_pure, List.take_of_length_le]
def rowOk (r : Rw) : Bool := decide (r.ag ≠ []) && decide (r.ag.length ≤ 1000000) && r.ag.all smallV && smallV r.v
def copyP (t : Tb) : Option PVal := if t.rows ≠ [] ∧ t.rows.length ≤ 1000000 ∧ t.rows.all rowOk = true ∧ smallV t.els = true then some (cTb.enc t) else none
def Tcp24 : Tab := ((Tab.none.with 59 (freshS 7 58 sClR)).with 60 (pureS (sp1 cVa.lst ownsP))).with 61 (pureS (sp1 cVa ownP))
theorem Tcp24_ok : TabOk Tryz.prog base Tcp24 := Tab.with_ok (Tab.with_ok (Tab.with_ok Tab.none_ok cloneRw_ok) owns_ok) mown_ok
theorem Tcp24_mu (f : FuncId) (a : List AVal) (H : Heap) : Tcp24.mu f a H = none := (rfl)
theorem Tcp24_fns : Tcp24.fn 59 = (freshS 7 58 sClR) ∧ Tcp24.fn 60 = (pureS (sp1 cVa.lst ownsP)) ∧ Tcp24.fn 61 = (pureS (sp1 cVa ownP)) := ⟨rfl, rfl, rfl⟩
theorem copy_ok : FnOk Tryz.prog base 35 (pureS (sp1 cTb copyP)) := by
 refine pure_of_vc hmix Tcp24_ok globNone low35 fun args z hs hf => ?_
 obtain ⟨t, wt, rfl, hz⟩ := sp1_some hs
 unfold copyP at hz
 split at hz
 case isFalse => cases hz
 rename_i hc
 obtain ⟨hne, hlen, hall, hels⟩ := hc
 cases hz
 obtain ⟨f, rows, els⟩ := t
 simp only at hne hlen hall hels
 obtain ⟨wr, we⟩ := wt
 simp only at wr we
 refine ⟨by simp [lf35], ?_⟩
 have hen : cTb.enc ⟨f, rows, els⟩ = .agg [.str f, .lst (rows.map cRw.enc), .int .i64 els.k, .bool els.b, .bool els.x.s, .lst (els.x.n.map u64), .lst (els.x.d.map u64), .int .i64 els.el] := rfl
 have hcl : freshS 7 58 sClR [.lst (rows.map cRw.enc)] = some (.own 0 0 rows.length 0, [⟨7, 0, false, (rows.map cRw.enc).map .p, 58⟩]) := by
  have h1 : sClR [.lst (rows.map cRw.enc)] = some (rows.map cRw.enc) := by
   have h2 : decL cRw.dec (rows.map cRw.enc) = some rows := cRw.deL rows wr
   simp only [sClR, h2]
   cases rows with
   | nil => exact absurd rfl hne
   | cons a r =>
    simp only [List.length_cons] at hlen ⊢
    rw [if_pos (by omega)]
  simp only [freshS, h1, List.length_map]
 have hels' : sp1 cVa ownP [els.enc] = some els.enc := (sp1_at (A := cVa) (x := els) we).trans (if_pos hels)
 have hele : els.enc = .agg [.int .i64 els.k, .bool els.b, .bool els.x.s, .lst (els.x.n.map u64), .lst (els.x.d.map u64), .int .i64 els.el] := rfl
 rw [hele] at hels'
 rw [hen]
 obtain ⟨EN, hEN⟩ : ∃ t, t = els.x.n.map u64 := ⟨_, rfl⟩
 obtain ⟨ED, hED⟩ : ∃ t, t = els.x.d.map u64 := ⟨_, rfl⟩
 rw [← hEN, ← hED] at hels' ⊢
 simp [lf35, hcl, shiftE_p, Tcp24_mu, Tcp24_fns, -List.map_map]
 simp only [lf35_B0, vc_block]
 have hlR : ((rows.map cRw.enc).map AVal.p).length = rows.length := by simp
 have hgR : ∀ j x, rows[j]? = some x → ((rows.map cRw.enc).map AVal.p)[j]? = some (AVal.p (cRw.enc x)) := fun j x h => by rw [List.getElem?_map, List.getElem?_map, h]; rfl
 have hresR : ∀ (H : Heap) (n : Nat), mapO (resolveV H n) ((rows.map cRw.enc).map AVal.p) = some (rows.map cRw.enc) := fun H n => mapO_pure H n _
 obtain ⟨LR, hLR⟩ : ∃ t, t = rows.map cRw.enc := ⟨_, rfl⟩
 rw [← hLR] at hlR hgR hresR ⊢
 obtain ⟨VR, hVR⟩ : ∃ t, t = LR.map AVal.p := ⟨_, rfl⟩
 rw [← hVR] at hlR hgR hresR ⊢
 obtain ⟨ea, hea⟩ : ∃ t : Ent, t = ⟨8, 0, false, [.p (.agg [.str f, .lst LR, .int .i64 els.k, .bool els.b, .bool els.x.s, .lst EN, .lst ED, .int .i64 els.el])], 54⟩ := ⟨_, rfl⟩
 obtain ⟨eb, heb⟩ : ∃ t : Ent, t = ⟨8, 0, false, [.agg [.p (.str []), .tight [], .p (.int .i64 0), .p (.bool false), .p (.bool false), .tight [], .tight [], .p (.int .i64 0)]], 54⟩ := ⟨_, rfl⟩
 rw [← hea, ← heb]
 refine loop_ind (fun fr G => ∃ Z, G = [ea, eb, ⟨7, 0, false, VR, 58⟩] ++ Z ∧ ∃ j : Nat, j ≤ rows.length ∧ fr 1 = .optr 0 0 0 0 ∧ fr 2 = .optr 1 0 0 0 ∧ fr 3 = .own 2 0 rows.length 0 ∧ fr 9 = .own 2 0 rows.length 0 ∧ fr 10 = .p (.int .i64 rows.length) ∧ fr 11 = .p (.int .i64 j)) (fun fr _ => rows.length - ivar (fr 11)) ⟨[], rfl, 0, by omega, by simp, by simp, by simp, by simp, by simp, by simp⟩ ?_
 rintro fr G ⟨Z, hG, j, hj, f1, f2, f3, f9, f10, f11⟩
 by_cases h : j < rows.length
 ·obtain ⟨x, hx⟩ : ∃ x, rows[j]? = some x := ⟨_, List.getElem?_eq_getElem h⟩
  have hw := wrap_succ (i := j) (by omega)
  have hxm := List.mem_of_getElem? hx
  have hrk := List.all_eq_true.1 hall x hxm
  simp only [rowOk, Bool.and_eq_true, decide_eq_true_eq] at hrk
  obtain ⟨⟨⟨hr1, hr2⟩, hr3⟩, hr4⟩ := hrk
  have ho : sp1 cVa ownP [x.v.enc] = some x.v.enc := (sp1_at (A := cVa) (x := x.v) (wr x hxm).2).trans (if_pos hr4)
  have hos : sp1 cVa.lst ownsP [cVa.lst.enc x.ag] = some (.lst (x.ag.map Va.enc)) := (sp1_at (A := cVa.lst) (x := x.ag) (wr x hxm).1).trans (if_pos ⟨hr1, hr2, hr3⟩)
  have hen' : cVa.lst.enc x.ag = .lst (x.ag.map Va.enc) := rfl
  have hxe : cRw.enc x = .agg [.lst (x.ag.map Va.enc), .int .i64 x.v.k, .bool x.v.b, .bool x.v.x.s, .lst (x.v.x.n.map u64), .lst (x.v.x.d.map u64), .int .i64 x.v.el] := rfl
  have hve : x.v.enc = .agg [.int .i64 x.v.k, .bool x.v.b, .bool x.v.x.s, .lst (x.v.x.n.map u64), .lst (x.v.x.d.map u64), .int .i64 x.v.el] := rfl
  have hget := hgR j x hx
  have hset := set_self hget
  rw [hxe] at hget hset
  rw [hve] at ho
  rw [hen'] at hos
  obtain ⟨XA, hXA⟩ : ∃ t, t = x.ag.map Va.enc := ⟨_, rfl⟩
  obtain ⟨XN, hXN⟩ : ∃ t, t = x.v.x.n.map u64 := ⟨_, rfl⟩
  obtain ⟨XD, hXD⟩ : ∃ t, t = x.v.x.d.map u64 := ⟨_, rfl⟩
  rw [← hXA, ← hXN, ← hXD] at hget hset
  rw [← hXN, ← hXD] at ho
  rw [← hXA] at hos
  have hA : ∀ Y, (G ++ Y)[2]? = some ⟨7, 0, false, VR, 58⟩ := fun Y => by rw [hG]; rfl
  have hA' : G[2]? = some ⟨7, 0, false, VR, 58⟩ := by rw [hG]; rfl
  have hS : ∀ Y, (G ++ Y).set 2 ⟨7, 0, false, VR, 58⟩ = G ++ Y := fun Y => set_self (hA Y)
  simp [f1, f2, f3, f9, f10, f11, h, hw, hA, hA', hget, hlR, getT, getT0, setT, setT0, ivar, Tcp24_mu, Tcp24_fns, -getElem?_pos, List.getElem?_cons_zero, List.getElem?_cons_succ]
  rw [vc_regionW]
  refine ⟨[], ?_⟩
  simp [f1, f2, f3, f9, f10, f11, h, hw, hA, hA', hget, hset, hS, hlR, ho, hos, getT, getT0, setT, setT0, ivar, Tcp24_mu, Tcp24_fns, -getElem?_pos, List.getElem?_cons_zero, List.getElem?_cons_succ]
  exact ⟨⟨⟨Z ++ _, by rw [hG]; rfl⟩, j + 1, by omega, rfl⟩, by omega⟩
 ·have hil : j = rows.length := by omega
  subst hil
  simp [f1, f2, f3, f9, f10, f11]
  rw [vc_regionW]
  refine ⟨[], ?_⟩
  rw [hG, hea, heb]
  simp [f1, f2, f3, f9, f10, f11, hels', hresR, List.take_of_length_le, hlR, Tcp24_mu, Tcp24_fns, -getElem?_pos, List.getElem?_cons_zero, List.getElem?_cons_succ]
end Go.Proofs.YtgbjjikaenlkmaaGreat

/-
 uf: calls whose answer holds no memory leave the caller's arrays open; what the document fixes.
-/
namespace Go.Proofs.YtgbjjikaenlkmaaGreat
open Go Go.Abs Go.Limbs
variable {base : Prot}
set_option maxRecDepth 20000
def flat0 : PVal → Bool
 | .bool _ => true
 | .int _ _ => true
 | .lst [] => true
 | _ => false
def flatP : PVal → Bool
 | .tup l => l.all flat0
 | x => flat0 x
theorem flat0_any {pr pr' : Prot} {x : PVal} {v : Value} (h : flat0 x = true) (r : PRep pr x v) : PRep pr' x v := by
 cases r with
 | bool b => exact .bool b
 | int k n => exact .int k n
 | lst es a len cap size blk off vals hl hc hm ha hs hp hr hk =>
  cases es with
  | nil => exact .lst [] a len cap size blk off vals hl hc hm ha hs (fun i j hi _ => absurd hi (by simp)) (fun i e j x h1 _ => by simp at h1) hk
  | cons y r => cases h
 | flt | cpx | str | nilp | cptr | clo | nilf | nili | agg | tup => cases h
theorem flatP_any {pr pr' : Prot} {x : PVal} {v : Value} (h : flatP x = true) (r : PRep pr x v) : PRep pr' x v := by
 cases r with
 | tup l vs hl hr =>
  refine .tup l vs hl fun j x v h1 h2 => flat0_any ?_ (hr j x v h1 h2)
  exact List.all_eq_true.1 h x (List.mem_of_getElem? h1)
 | bool b => exact .bool b
 | int k n => exact .int k n
 | lst es a len cap size blk off vals hl hc hm ha hs hp hr hk => exact flat0_any (x := .lst es) h (.lst es a len cap size blk off vals hl hc hm ha hs hp hr hk)
 | flt | cpx | str | nilp | cptr | clo | nilf | nili | agg => cases h
theorem Inv.keep {c : Ctx} {H : Heap} {w w' : World} (hI : Inv base c H w) (hs : w.heap.size ≤ w'.heap.size) (hb : ∀ b, b < w.heap.size → w'.heap[b]? = w.heap[b]?) : Inv base c H w' where
 base := hI.base
 len := hI.len
 prot := fun b o v h => by
  have h1 := hI.prot b o v h
  have hlt : b < w.heap.size := by
   rcases Nat.lt_or_ge b w.heap.size with h2 | h2
   ·exact h2
   ·have h3 : w.heap[b]? = none := by simp [h2]
    simp [World.cell?, h3] at h1
  have h4 : w'.cell? ⟨b, o, none⟩ = w.cell? ⟨b, o, none⟩ := World.cell?_of_block (a := ⟨b, o, none⟩) (hb b hlt)
  rw [h4, h1]
 ent := fun k e l h1 h2 => by
  have hE := hI.ent k e l h1 h2
  have hlt : ∀ g cap, l.place = some (g, cap) → w'.heap[g]? = w.heap[g]? := fun g cap hp => by
   apply hb
   cases hm : l.mp with
   | true =>
    obtain ⟨es, ck, h3, -⟩ := hE.mapped g cap hp hm
    exact (Array.getElem?_eq_some_iff.1 h3).1
   | false =>
    obtain ⟨cur, ty, h3, -⟩ := hE.there g cap hp hm
    exact (Array.getElem?_eq_some_iff.1 h3).1
  refine ⟨hE.ver, hE.size, hE.pos, hE.cells, hE.nowhere, fun g cap cur ty fr hp h => ?_, fun g cap hp hm => ?_, fun g cap hp hm => ?_⟩
  ·rw [hlt g cap hp] at h
   exact hE.typed g cap cur ty fr hp h
  ·have := hE.mapped g cap hp hm
   unfold MapIn at this ⊢
   rw [hlt g cap hp]
   exact this
  ·rw [hlt g cap hp]
   exact hE.there g cap hp hm
 inj := hI.inj
def flatM (F : List AVal → Heap → List Nat) (s : List PVal → Option PVal) (args : List AVal) (H : Heap) : Option (AVal × Heap) :=
 match mapO (resolveV H fuel) args with
 | some ps => match s ps with
  | some x => if flatP x = true then some (.p x, freezeL H (F args H)) else none
  | none => none
 | none => none
theorem flat_mu {P : Program} {f : FuncId} {s : List PVal → Option PVal} (F : List AVal → Heap → List Nat) (h : FnOk P base f (pureS s)) : MuOk P base f (flatM F s) := by
 refine ⟨h.1, fun args H r H' hm c w vs hI hr => ?_⟩
 unfold flatM at hm
 cases hps : mapO (resolveV H fuel) args with
 | none => rw [hps] at hm; cases hm
 | some ps =>
 rw [hps] at hm
 simp only at hm
 cases hx : s ps with
 | none => rw [hx] at hm; cases hm
 | some x =>
 rw [hx] at hm
 simp only at hm
 split at hm
 case isFalse => cases hm
 rename_i hfl
 cases hm
 obtain ⟨c1, e1, s1, i1, p1⟩ := hI.freezeL (args.flatMap (touchV H fuel))
 have same := same_freezeL (args.flatMap (touchV H fuel)) H
 have hpr : ∀ (j : Nat) p v, ps[j]? = some p → vs[j]? = some v → PRep c1.prot p v := by
  intro j p v hj hv
  obtain ⟨y, a, b⟩ := mapO_back hps j p hj
  rw [resolve_same same] at b
  refine resolve_ok i1 fuel y v p ((hr.2 j y v a hv).step s1) b (fun k hk => ?_)
  rw [← touch_same same] at hk
  exact (p1 k (List.mem_flatMap.2 ⟨y, List.mem_of_getElem? a, hk⟩)).step rfl (fun _ _ _ h => h) (fun e he => freezeL_get _ H k e he)
   (fun e l g cap a b d o ho => hI.cell_at a (by rw [← e1]; exact b) d o ho)
 have hlen : vs.length = ps.length := by rw [(mapO_some hps).1]; exact hr.1
 have i0 : Inv base ⟨[], c1.prot⟩ [] w := ⟨i1.base, rfl, i1.prot, fun k e l h => by simp at h, fun k k' l l' g cp cp' h => by simp at h⟩
 have hs : pureS s ps = some (.p x, []) := by unfold pureS; rw [hx]
 refine (h.2 ps (.p x) [] hs ⟨[], c1.prot⟩ w vs i0 (PRep.toRep hlen hpr)).mono fun e w' ⟨v, c0', he, st, hi, hrep⟩ => ?_
 have hb : ∀ b, b < w.heap.size → w'.heap[b]? = w.heap[b]? := fun b hb => st.blk b hb (by rintro ⟨k, l, cap, h1, -⟩; simp at h1)
 have iK := Inv.keep hI st.size hb
 have s0 : Step c w c w' := ⟨fun _ _ _ h => h, fun _ l h => ⟨l, h, Nat.le_refl _, fun _ => rfl⟩, st.os, st.tape, st.output, st.size, fun b hlt _ => hb b hlt, fun _ h => .inl h, fun _ _ _ h => .inl h⟩
 obtain ⟨c2, e2, s2, i2, -⟩ := iK.freezeL (F args H)
 have hv : PRep c.prot x v := by
  cases hrep with
  | p _ _ hp => exact flatP_any hfl hp
 exact ⟨v, c2, he, s0.trans s2, i2, (Rep.p x v hv).step s2⟩
def Trun : Tab := (((((((((Tab.none.with 10 (pureS (sp2 cMd.lst cGv.lst clashP))).with 24 sTabG).with 20 sTabV).with 30 (pureS (sp1 cI zerP))).with 35 (pureS (sp1 cTb copyP))).own 27 sVals).own 28 sIxT).own 31 sRow).own 32 sSrt)
theorem Trun_ok : TabOk Tryz.prog base Trun := Tab.own_ok (Tab.own_ok (Tab.own_ok (Tab.own_ok (Tab.with_ok (Tab.with_ok (Tab.with_ok (Tab.with_ok (Tab.with_ok Tab.none_ok Clash_ok) tabG_ok) tabV_ok) mzero_ok) copy_ok) vals_ok) ixT_ok) urow_ok) srt_ok
def sTbsK (args : List PVal) : Option PVal := K.runPK Trun 5 lf12 args
theorem tabsK_ok : FnOk Tryz.prog base 12 (pureS sTbsK) := K.pure_of_runK hmix Trun_ok globNone low12 5 fun _ _ h => h
def othersF (args : List AVal) (H : Heap) : List Nat := match args with
 | [_, g] => (List.range H.length).filter fun k => !(touchV H fuel g).contains k
 | _ => []
def Taw24 : Tab := (((((((Tab.none.with 19 (pureS sQOf)).with 9 (pureS (sp3 cVr.lst cMd cMd lemmaP))).with 12 (pureS sTbsK)).with 18 (pureS (sp2 cI cVa.lst freeP))).with 17 (pureS (sp3 cPr.lst cI cI wayP))).own 12 (flatM (fun _ _ => []) sTbsK)).own 10 (flatM othersF (sp2 cMd.lst cGv.lst clashP)))
theorem Taw24_ok : TabOk Tryz.prog base Taw24 := Tab.own_ok (Tab.own_ok (Tab.with_ok (Tab.with_ok (Tab.with_ok (Tab.with_ok (Tab.with_ok Tab.none_ok rofR_ok) lemma_ok) tabsK_ok) free_ok) merge_ok) (flat_mu _ tabsK_ok)) (flat_mu _ Clash_ok)
theorem aw24_run : eqO (K.runPK Taw24 5 lf6 []) (some (.bool true)) = true := by kernel_rfl
theorem awake24_ok : FnOk Tryz.prog base 6 (pureS sAwk) := by
 refine K.pure_of_runK hmix Taw24_ok globNone low6 5 fun args x hs => ?_
 unfold sAwk at hs
 split at hs
 case h_2 => cases hs
 cases hs
 exact eqO_ok aw24_run
end Go.Proofs.YtgbjjikaenlkmaaGreat
