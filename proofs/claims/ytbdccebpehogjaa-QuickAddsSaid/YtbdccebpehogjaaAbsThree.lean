/-
  A library of the prover's own, part 3: contracts, rewriting rules, calls carried out, strings.Builder, and what a row asks. No conditions.
-/
import Derived.Test.YtbdccebpehogjaaAbsTwo
import Derived.Carry
import Derived.ChangeSlices
import Derived.WideShapes
import Derived.RowKit
import Derived.ChangeMaps5
import Derived.DataReads
import Derived.SliceStrings
import Derived.ChangeSame
import Derived.RangeFuncNested
import Derived.RangeFuncBound
import Derived.RangeFuncCalls
import Derived.RangeFuncLeaves
import Derived.TacticsIn
import Derived.RangeFuncBox
set_option linter.unusedSimpArgs false
set_option linter.unnecessarySimpa false
set_option linter.unusedVariables false
set_option linter.constructorNameAsVariable false

/-
 ABS, part S: the evaluation as rewriting rules.
-/
namespace Go.Abs
section
variable {T : Tab} {Q : LExit → AFr → Heap → Prop} {fr : AFr} {H : Heap}
def seqQ (T : Tab) (b : LCode) (Q : LExit → AFr → Heap → Prop) (e : LExit) (fr : AFr) (H : Heap) : Prop := thenQ (fun fr' H' => vc T b Q fr' H') Q e fr H
def bindO (r : Option (AVal × Heap)) (k : AVal → Heap → Prop) : Prop := match r with
 | some (x, H) => k x H
 | none => False
def goL (T : Tab) : List LOper → (LExit → AFr → Heap → Prop) → AFr → Heap → Prop
 | [], Q, fr, H => Q .normal fr H
 | o :: r, Q, fr, H => bindO (evalV T o fr H) fun x H' => goL T r Q (put fr o.dst x) H'
def goD (T : Tab) : List LOper → (LExit → AFr → Heap → Prop) → AFr → Heap → Prop
 | [], Q, fr, H => Q .normal fr H
 | o :: r, Q, fr, H => bindO (evalV T o fr H) fun x H' => H' = H ∧ goD T r Q (put fr o.dst x) H
theorem goL_eq : ∀ (ops : List LOper) (fr : AFr) (H : Heap), goL T ops Q fr H = match evalL T ops fr H with | some (fr', H') => Q .normal fr' H' | none => False
 | [], fr, H => rfl
 | o :: r, fr, H => by
  simp only [goL, evalL, bindO]
  cases evalV T o fr H with
  | none => rfl
  | some p => exact goL_eq r _ _
theorem goD_eq : ∀ (ops : List LOper) (fr : AFr) (H : Heap), goD T ops Q fr H = evalD T H (fun fr' => Q .normal fr' H) ops fr
 | [], fr, H => rfl
 | o :: r, fr, H => by
  simp only [goD, evalD, bindO]
  cases evalV T o fr H with
  | none => rfl
  | some p => simp only [goD_eq r]
theorem vc_skip : vc T .skip Q fr H = Q .normal fr H := (rfl)
theorem vc_region {ops} : vc T (.region ops) Q fr H = goL T ops Q fr H := by rw [goL_eq]; rfl
def goW (T : Tab) (W : List Nat) (N : Nat) : List (LOper × Fl) → (LExit → AFr → Heap → Prop) → AFr → Heap → Prop
 | [], Q, fr, H => Q .normal fr H
 | (o, fl) :: r, Q, fr, H => bindO (evalV T o fr H) fun x H' => condW T W N fl o fr H x H' ∧ goW T W N r Q (put fr o.dst x) H'
theorem goW_eq {W : List Nat} {N : Nat} : ∀ (ops : List (LOper × Fl)) (fr : AFr) (H : Heap), goW T W N ops Q fr H = evalW T W N (fun fr' H' => Q .normal fr' H') ops fr H
 | [], _, _ => rfl
 | (o, fl) :: r, fr, H => by
  simp only [goW, evalW, bindO]
  cases evalV T o fr H with
  | none => rfl
  | some p => simp only [goW_eq r]
theorem vc_regionW {ops} : vc T (.regionW ops) Q fr H = ∃ W : List Nat, goW T W H.length ops Q fr H := by simp only [goW_eq]; rfl
theorem goW_nil {W N} : goW T W N [] Q fr H = Q .normal fr H := (rfl)
def nextW (T : Tab) (W : List Nat) (N : Nat) (p : Option (AVal × Heap)) (fl : Fl) (o : LOper) (H : Heap) (r : List (LOper × Fl)) (Q : LExit → AFr → Heap → Prop) (fr : AFr) : Prop := match p with
 | some (x, H') => condW T W N fl o fr H x H' ∧ goW T W N r Q (put fr o.dst x) H'
 | none => False
theorem nextW_free {W N o r x H'} : nextW T W N (some (x, H')) .f o H r Q fr = goW T W N r Q (put fr o.dst x) H' := by simp [nextW, condW]
theorem nextW_flag {W N o r x H'} : nextW T W N (some (x, H')) .s o H r Q fr = (sideW W N o fr H H' ∧ goW T W N r Q (put fr o.dst x) H') := by simp [nextW, condW]
theorem nextW_steady {W N o r x H'} : nextW T W N (some (x, H')) .t o H r Q fr = ((∀ G, evalV T o fr G = some (x, G)) ∧ goW T W N r Q (put fr o.dst x) H') := by simp [nextW, condW]
theorem nextW_none {W N fl o r} : nextW T W N none fl o H r Q fr = False := (rfl)
theorem goW_cons {W N o fl r} : goW T W N ((o, fl) :: r) Q fr H = nextW T W N (evalV T o fr H) fl o H r Q fr := by simp only [goW, bindO, nextW]
def goN (T : Tab) (W : List Nat) (N : Nat) : List (LOper × Fl) → (LExit → AFr → Heap → Prop) → AFr → Heap → Prop
 | [], Q, fr, H => Q .normal fr H
 | (o, fl) :: r, Q, fr, H => bindO (evalX T N fl o fr H) fun x H' => condW T W N fl o fr H x H' ∧ goN T W N r Q (put fr o.dst x) H'
theorem goN_nil {W N} : goN T W N [] Q fr H = Q .normal fr H := (rfl)
def nextN (T : Tab) (W : List Nat) (N : Nat) (p : Option (AVal × Heap)) (fl : Fl) (o : LOper) (H : Heap) (r : List (LOper × Fl)) (Q : LExit → AFr → Heap → Prop) (fr : AFr) : Prop := match p with
 | some (x, H') => condW T W N fl o fr H x H' ∧ goN T W N r Q (put fr o.dst x) H'
 | none => False
theorem nextN_free {W N o r x H'} : nextN T W N (some (x, H')) .f o H r Q fr = goN T W N r Q (put fr o.dst x) H' := by simp [nextN, condW]
theorem nextN_flag {W N o r x H'} : nextN T W N (some (x, H')) .s o H r Q fr = (sideW W N o fr H H' ∧ goN T W N r Q (put fr o.dst x) H') := by simp [nextN, condW]
theorem nextN_steady {W N o r x H'} : nextN T W N (some (x, H')) .t o H r Q fr = ((∀ G, evalV T o fr G = some (x, G)) ∧ goN T W N r Q (put fr o.dst x) H') := by simp [nextN, condW]
theorem nextN_kept {W N o r x H' R} : nextN T W N (some (x, H')) (.c R) o H r Q fr = (((N + R ≤ H.length ∧ N + R ≤ H'.length) ∧ sideW W N o fr H H' ∧ ∀ M : Heap, M.length = R → evalV T o fr (midH N R H M) = some (x, midH N R H' M)) ∧ goN T W N r Q (put fr o.dst x) H') := by simp [nextN, condW]
theorem nextN_new {W N o r x H' k} : nextN T W N (some (x, H')) (.n k) o H r Q fr = goN T W N r Q (put fr o.dst x) H' := by simp [nextN, condW]
theorem nextN_none {W N fl o r} : nextN T W N none fl o H r Q fr = False := (rfl)
theorem goN_cons {W N o fl r} : goN T W N ((o, fl) :: r) Q fr H = nextN T W N (evalX T N fl o fr H) fl o H r Q fr := by simp only [goN, bindO, nextN]
theorem evalX_f {N o} : evalX T N .f o fr H = evalV T o fr H := (rfl)
theorem evalX_s {N o} : evalX T N .s o fr H = evalV T o fr H := (rfl)
theorem evalX_t {N o} : evalX T N .t o fr H = evalV T o fr H := (rfl)
theorem evalX_c {N o R} : evalX T N (.c R) o fr H = evalV T o fr H := (rfl)
theorem evalX_n {N r o} : evalX T N (.n r) o fr H = newAt (N + r) o.op fr H := (rfl)
theorem vc_regionD {ops} : vc T (.regionD ops) Q fr H = goD T ops Q fr H := by rw [goD_eq]; rfl
theorem vc_seq {a b} : vc T (.seq a b) Q fr H = vc T a (seqQ T b Q) fr H := (rfl)
def condK (T : Tab) (x : AVal) (a b : LCode) (Q : LExit → AFr → Heap → Prop) (fr : AFr) (H : Heap) : Prop := match x with
 | .p (.bool t) => if t = true then vc T a Q fr H else vc T b Q fr H
 | .anyb => vc T a Q fr H ∧ vc T b Q fr H
 | _ => False
theorem vc_cond {c a b} : vc T (.cond c a b) Q fr H = condK T (opd fr c) a b Q fr H := (rfl)
theorem condK_true {a b} : condK T (.p (.bool true)) a b Q fr H = vc T a Q fr H := by simp [condK]
theorem condK_false {a b} : condK T (.p (.bool false)) a b Q fr H = vc T b Q fr H := by simp [condK]
theorem condK_any {a b} : condK T .anyb a b Q fr H = (vc T a Q fr H ∧ vc T b Q fr H) := (rfl)
theorem vc_block {id b} : vc T (.block id b) Q fr H = vc T b (blockQ id Q) fr H := (rfl)
theorem vc_exit {id} : vc T (.exit id) Q fr H = Q (.exit id) fr H := (rfl)
theorem vc_ret : vc T .ret Q fr H = Q .ret fr H := (rfl)
theorem vc_bad : vc T .bad Q fr H = False := (rfl)
theorem seqQ_normal {b} : seqQ T b Q .normal fr H = vc T b Q fr H := (rfl)
theorem seqQ_exit {b id} : seqQ T b Q (.exit id) fr H = Q (.exit id) fr H := (rfl)
theorem seqQ_ret {b} : seqQ T b Q .ret fr H = Q .ret fr H := (rfl)
theorem blockQ_normal {id} : blockQ id Q .normal fr H = Q .normal fr H := (rfl)
theorem blockQ_ret {id} : blockQ id Q .ret fr H = Q .ret fr H := (rfl)
theorem blockQ_same {id} : blockQ id Q (.exit id) fr H = Q .normal fr H := by simp [blockQ]
theorem blockQ_other {id j} (h : j ≠ id) : blockQ id Q (.exit j) fr H = Q (.exit j) fr H := by simp [blockQ, h]
theorem goL_nil : goL T [] Q fr H = Q .normal fr H := (rfl)
def nextL (T : Tab) (p : Option (AVal × Heap)) (r : List LOper) (Q : LExit → AFr → Heap → Prop) (fr : AFr) (d : Option Nat) : Prop := match p with
 | some (x, H') => goL T r Q (put fr d x) H'
 | none => False
theorem nextL_some {r x d} : nextL T (some (x, H)) r Q fr d = goL T r Q (put fr d x) H := (rfl)
theorem nextL_none {r d} : nextL T none r Q fr d = False := (rfl)
theorem goL_cons {o r} : goL T (o :: r) Q fr H = nextL T (evalV T o fr H) r Q fr o.dst := by simp only [goL, bindO, nextL]
theorem goD_nil : goD T [] Q fr H = Q .normal fr H := (rfl)
def nextD (T : Tab) (p : Option (AVal × Heap)) (H : Heap) (r : List LOper) (Q : LExit → AFr → Heap → Prop) (fr : AFr) (d : Option Nat) : Prop := match p with
 | some (x, H') => H' = H ∧ goD T r Q (put fr d x) H
 | none => False
theorem nextD_some {r x d H'} : nextD T (some (x, H')) H r Q fr d = (H' = H ∧ goD T r Q (put fr d x) H) := (rfl)
theorem nextD_none {r d} : nextD T none H r Q fr d = False := (rfl)
theorem goD_cons {o r} : goD T (o :: r) Q fr H = nextD T (evalV T o fr H) H r Q fr o.dst := by simp only [goD, bindO, nextD]
theorem upd_app {d v i} : upd fr d v i = if i = d then v else fr i := (rfl)
theorem put_some {d v} : put fr (some d) v = upd fr d v := (rfl)
theorem put_none {v} : put fr none v = fr := (rfl)
theorem opd_tmp {t} : opd fr (.tmp t) = fr t := (rfl)
theorem opd_cst {x} : opd fr (.cst x) = x := (rfl)
theorem evalV_free {d op} : evalV T ⟨d, none, op⟩ fr H = evalOp T op fr H := (rfl)
def guardO (g : AVal) (want : Bool) (r : Option (AVal × Heap)) (H : Heap) : Option (AVal × Heap) := match g with
 | .p (.bool b) => if b = want then r else some (.p (.tup []), H)
 | .p (.tup _) => some (.p (.tup []), H)
 | _ => none
theorem evalV_guard {d s want op} : evalV T ⟨d, some (s, want), op⟩ fr H = guardO (fr s) want (evalOp T op fr H) H := (rfl)
theorem guardO_hit {b r} : guardO (.p (.bool b)) b r H = r := by simp [guardO]
theorem guardO_tf {r} : guardO (.p (.bool true)) false r H = some (.p (.tup []), H) := (rfl)
theorem guardO_ft {r} : guardO (.p (.bool false)) true r H = some (.p (.tup []), H) := (rfl)
theorem guardO_tup {l want r} : guardO (.p (.tup l)) want r H = some (.p (.tup []), H) := (rfl)
def roundQ (I : AFr → Heap → Prop) (μ : AFr → Heap → Nat) (m : Nat) (Q : LExit → AFr → Heap → Prop) (e : LExit) (fr : AFr) (H : Heap) : Prop := thenQ (fun fr' H' => I fr' H' ∧ μ fr' H' < m) Q e fr H
theorem roundQ_normal {I μ m} : roundQ I μ m Q .normal fr H = (I fr H ∧ μ fr H < m) := (rfl)
theorem roundQ_exit {I μ m id} : roundQ I μ m Q (.exit id) fr H = Q (.exit id) fr H := (rfl)
theorem roundQ_ret {I μ m} : roundQ I μ m Q .ret fr H = Q .ret fr H := (rfl)
theorem loop_ind {b : LCode} (I : AFr → Heap → Prop) (μ : AFr → Heap → Nat) (h0 : I fr H) (h : ∀ fr H, I fr H → vc T b (roundQ I μ (μ fr H) Q) fr H) : vc T (.loop b) Q fr H := ⟨I, μ, h0, h⟩
theorem vc_congr {c} {fr fr' : AFr} {H H' : Heap} (h1 : fr = fr') (h2 : H = H') : vc T c Q fr H = vc T c Q fr' H' := by rw [h1, h2]
theorem seqQ_congr {b e} {fr fr' : AFr} {H H' : Heap} (h1 : fr = fr') (h2 : H = H') : seqQ T b Q e fr H = seqQ T b Q e fr' H' := by rw [h1, h2]
theorem blockQ_congr {id e} {fr fr' : AFr} {H H' : Heap} (h1 : fr = fr') (h2 : H = H') : blockQ id Q e fr H = blockQ id Q e fr' H' := by rw [h1, h2]
theorem bindO_congr {r r' k} (h : r = r') : bindO r k = bindO r' k := by rw [h]
theorem goL_congr {ops} {fr fr' : AFr} {H H' : Heap} (h1 : fr = fr') (h2 : H = H') : goL T ops Q fr H = goL T ops Q fr' H' := by rw [h1, h2]
theorem goD_congr {ops} {fr fr' : AFr} {H H' : Heap} (h1 : fr = fr') (h2 : H = H') : goD T ops Q fr H = goD T ops Q fr' H' := by rw [h1, h2]
theorem condK_congr {x x' a b} {fr fr' : AFr} {H H' : Heap} (h : x = x') (h1 : fr = fr') (h2 : H = H') : condK T x a b Q fr H = condK T x' a b Q fr' H' := by rw [h, h1, h2]
theorem roundQ_congr {I μ m e} {fr fr' : AFr} {H H' : Heap} (h1 : fr = fr') (h2 : H = H') : roundQ I μ m Q e fr H = roundQ I μ m Q e fr' H' := by rw [h1, h2]
theorem guardO_congr {g g' want r} (h : g = g') : guardO g want r H = guardO g' want r H := by rw [h]
def callP (T : Tab) (f : FuncId) (args : List AVal) (H : Heap) : Option (AVal × Heap) := match mapO (resolveV H fuel) args with
 | some ps => match T.fn f ps with
  | some (r, E) => some (shiftV H.length r, freezeL H (args.flatMap (touchV H fuel)) ++ E.map (shiftE H.length))
  | none => none
 | none => none
def callK (p : Option (AVal × Heap)) (T : Tab) (f : FuncId) (args : List AVal) (H : Heap) : Option (AVal × Heap) := match p with
 | some r => some r
 | none => callP T f args H
theorem callF_eq {f args} : callF T f args H = callK (T.mu f args H) T f args H := (rfl)
theorem callK_some {p f args} : callK (some p) T f args H = some p := (rfl)
theorem callK_none {f args} : callK none T f args H = callP T f args H := (rfl)
theorem nextL_congr {p p' r d} {fr fr' : AFr} (h : p = p') (h1 : fr = fr') : nextL T p r Q fr d = nextL T p' r Q fr' d := by rw [h, h1]
theorem nextD_congr {p p' r d} {fr fr' : AFr} {H H' : Heap} (h : p = p') (h1 : fr = fr') (h2 : H = H') : nextD T p H r Q fr d = nextD T p' H' r Q fr' d := by rw [h, h1, h2]
theorem nextW_congr {p p' W N fl o r} {fr fr' : AFr} {H H' : Heap} (h : p = p') (h1 : fr = fr') (h2 : H = H') : nextW T W N p fl o H r Q fr = nextW T W N p' fl o H' r Q fr' := by rw [h, h1, h2]
theorem goN_congr {W N ops} {fr fr' : AFr} {H H' : Heap} (h1 : fr = fr') (h2 : H = H') : goN T W N ops Q fr H = goN T W N ops Q fr' H' := by rw [h1, h2]
theorem nextN_congr {p p' W N fl o r} {fr fr' : AFr} {H H' : Heap} (h : p = p') (h1 : fr = fr') (h2 : H = H') : nextN T W N p fl o H r Q fr = nextN T W N p' fl o H' r Q fr' := by rw [h, h1, h2]
theorem callK_congr {p p' f args} (h : p = p') : callK p T f args H = callK p' T f args H := by rw [h]
theorem goW_congr {W N ops} {fr fr' : AFr} {H H' : Heap} (h1 : fr = fr') (h2 : H = H') : goW T W N ops Q fr H = goW T W N ops Q fr' H' := by rw [h1, h2]
end
attribute [congr] goN_congr nextN_congr goW_congr nextL_congr nextD_congr nextW_congr callK_congr
attribute [simp] goN_nil goN_cons nextN_free nextN_flag nextN_steady nextN_new nextN_kept nextN_none evalX_c midH evalX_f evalX_s evalX_t evalX_n newAt kept goW_nil goW_cons nextW_free nextW_flag nextW_steady nextW_none nextL_some nextL_none nextD_some nextD_none callF_eq callK_some callK_none callP sideW readerOp touched idxOf
attribute [congr] vc_congr seqQ_congr blockQ_congr bindO_congr goL_congr goD_congr condK_congr roundQ_congr guardO_congr
attribute [simp] vc_skip vc_region vc_regionD vc_seq vc_cond condK_true condK_false condK_any vc_block vc_exit vc_ret vc_bad seqQ_normal seqQ_exit seqQ_ret blockQ_normal blockQ_ret blockQ_same blockQ_other goL_nil goL_cons goD_nil goD_cons
 upd_app put_some put_none opd_tmp opd_cst evalV_free evalV_guard guardO_hit guardO_tf guardO_ft guardO_tup roundQ_normal roundQ_exit roundQ_ret
 evalOp binV isShift binI unV mapO resolveV resOne finish finishP endQ initFr intOf? optI lenOf? elemsOf sliceOf fromCells putCells allP mkAgg PVal.cells AVal.cells PVal.isCell AVal.isCell AVal.isAgg fillA appV
end Go.Abs

/-
 ABS, part T: own arrays that nobody leads to any more are let go at a function's end.
-/
namespace Go.Abs
variable {P : Program} {base : Prot}
inductive Below (n : Nat) : AVal → Prop
 | junk : Below n .junk
 | anyb : Below n .anyb
 | p (x) : Below n (.p x)
 | tight (es) : Below n (.tight es)
 | own (k off len ver) (h : k < n) : Below n (.own k off len ver)
 | optr (k ver i off) (h : k < n) : Below n (.optr k ver i off)
 | agg (l : List AVal) (h : ∀ x ∈ l, Below n x) : Below n (.agg l)
 | tup (l : List AVal) (h : ∀ x ∈ l, Below n x) : Below n (.tup l)
 | clo (f) (l : List AVal) (h : ∀ x ∈ l, Below n x) : Below n (.clo f l)
theorem Rep.under {c : Ctx} {x : AVal} {v : Value} (r : Rep c x v) : Below c.locs.length x := by
 induction r with
 | junk => exact .junk
 | anyb => exact .anyb
 | p => exact .p _
 | tight => exact .tight _
 | own k off len ver l v hl => exact .own _ _ _ _ (List.getElem?_eq_some_iff.1 hl).1
 | optr k ver i off l v hl => exact .optr _ _ _ _ (List.getElem?_eq_some_iff.1 hl).1
 | agg cells vs hl hr hk ih =>
  refine .agg _ fun x hx => ?_
  obtain ⟨j, hj, rfl⟩ := List.getElem_of_mem hx
  exact ih j _ (vs[j]'(by omega)) (by simp) (by simp [hl, hj])
 | tup l vs hl hr ih =>
  refine .tup _ fun x hx => ?_
  obtain ⟨j, hj, rfl⟩ := List.getElem_of_mem hx
  exact ih j _ (vs[j]'(by omega)) (by simp) (by simp [hl, hj])
 | clo f l vs hl hr ih =>
  refine .clo _ _ fun x hx => ?_
  obtain ⟨j, hj, rfl⟩ := List.getElem_of_mem hx
  exact ih j _ (vs[j]'(by omega)) (by simp) (by simp [hl, hj])
theorem Rep.drop {c : Ctx} {x : AVal} {v : Value} (r : Rep c x v) (n : Nat) (h : Below n x) : Rep ⟨c.locs.take n, c.prot⟩ x v := by
 induction r with
 | junk v => exact .junk v
 | anyb b => exact .anyb b
 | p x v hr => exact .p x v hr
 | tight es a m hn hr hz => exact .tight es a m hn hr hz
 | own k off len ver l v hl hv hh ho =>
  cases h with | own _ _ _ _ h => exact .own k off len ver l v (by simp [h, hl]) hv hh ho
 | optr k ver i off l v hl hv hh ho =>
  cases h with | optr _ _ _ _ h => exact .optr k ver i off l v (by simp [h, hl]) hv hh ho
 | agg cells vs hl hr hk ih =>
  cases h with | agg _ h => exact .agg cells vs hl (fun j x v h1 h2 => ih j x v h1 h2 (h x (List.mem_of_getElem? h1))) hk
 | tup l vs hl hr ih =>
  cases h with | tup _ h => exact .tup l vs hl (fun j x v h1 h2 => ih j x v h1 h2 (h x (List.mem_of_getElem? h1)))
 | clo f l vs hl hr ih =>
  cases h with | clo _ _ h => exact .clo f l vs hl (fun j x v h1 h2 => ih j x v h1 h2 (h x (List.mem_of_getElem? h1)))
def BelowH (n : Nat) (H : Heap) : Prop := ∀ e ∈ H, ∀ x ∈ e.elems, ∀ y ∈ x.cells, Below n y
theorem Inv.belowH {c : Ctx} {H : Heap} {w : World} (hI : Inv base c H w) : BelowH H.length H := by
 intro e he x hx y hy
 obtain ⟨k, hk, rfl⟩ := List.getElem_of_mem he
 obtain ⟨l, hl, ok⟩ := hI.loc (k := k) (e := H[k]) (by simp)
 obtain ⟨i, hi, rfl⟩ := List.getElem_of_mem hx
 obtain ⟨j, hj, rfl⟩ := List.getElem_of_mem hy
 rw [← hI.len]
 cases hp : l.place with
 | none => have := ok.nowhere hp; simp [this] at hi
 | some q =>
  obtain ⟨cur, ty, _, _, _, _, a5, _⟩ := ok.there q.1 q.2 hp
  obtain ⟨v, _, r⟩ := a5 i _ j _ (by simp [hi]) (List.getElem?_eq_getElem hj)
  exact r.under
theorem Inv.dropTail {c : Ctx} {H E : Heap} {w : World} (hI : Inv base c (H ++ E) w) (h : BelowH H.length H) : Inv base ⟨c.locs.take H.length, c.prot⟩ H w := by
 have get : ∀ {k : Nat} {l : Loc}, (c.locs.take H.length)[k]? = some l → c.locs[k]? = some l ∧ k < H.length := fun {k l} h => by
  rw [List.getElem?_take] at h
  split at h
  ·exact ⟨h, by assumption⟩
  ·cases h
 refine ⟨hI.base, by simp [hI.len], hI.prot, fun k e l h1 h2 => ?_, fun k k' l l' g cp cp' h1 h2 => hI.inj k k' l l' g cp cp' (get h1).1 (get h2).1⟩
 obtain ⟨h2', hk⟩ := get h2
 have ok := hI.ent k e l (by rw [List.getElem?_append_left hk]; exact h1) h2'
 refine ⟨ok.ver, ok.size, ok.pos, ok.cells, ok.nowhere, ok.typed, fun g cap hp => ?_⟩
 obtain ⟨cur, ty, a1, a2, a3, a4, a5, a6⟩ := ok.there g cap hp
 exact ⟨cur, ty, a1, a2, a3, a4, fun i x j y hx hy => let ⟨v, r1, r2⟩ := a5 i x j y hx hy; ⟨v, r1, r2.drop _ (h e (List.mem_of_getElem? h1) x (List.mem_of_getElem? hx) y (List.mem_of_getElem? hy))⟩, a6⟩
def ownQ (T : Tab) (rs : List LRes) (r : AVal) (H' : Heap) : LExit → AFr → Heap → Prop
 | .exit _, _, _ => False
 | _, fr, H => finish T rs fr H = some r ∧ ∃ E, H = H' ++ E
theorem own_of_vc' {gl : Nat → AVal} {T : Tab} (hm : P.follows .mixedOrders = true) (hT : TabOk P base T) (hg : GlobOk base gl) {f : FuncId} {lf : LFunc} (hl : lowFunc P gl f = some lf) {m : List AVal → Heap → Option (AVal × Heap)}
  (h : ∀ args H r H', m args H = some (r, H') → (∀ x ∈ args, ∀ y, x = .p y → Fits y) → BelowH H.length H → args.length ≤ lf.n ∧ H'.length = H.length ∧ BelowH H.length H' ∧ Below H.length r ∧ vc T lf.body (ownQ T lf.results r H') (initFr args) H) : MuOk P base f m := by
 refine ⟨goodFn_of_low hl, fun args H r H' hs c w vs hI hr => ?_⟩
 have hfit : ∀ x ∈ args, ∀ y, x = .p y → Fits y := fun x hx y hy => by
  subst hy
  obtain ⟨j, hj, hxj⟩ := List.getElem_of_mem hx
  have hlen := hr.1
  have := hr.2 j (.p y) (vs[j]'(by omega)) (by rw [List.getElem?_eq_getElem hj, hxj]) (by simp [hlen, hj])
  cases this with
  | p _ _ hp => exact ⟨_, _, hp⟩
 obtain ⟨hn, hlen, hb, hbr, hv⟩ := h args H r H' hs hfit hI.belowH
 have eQ : ownQ T lf.results r H' = retQ T lf.results fun r2 H2 => r2 = r ∧ ∃ E, H2 = H' ++ E := by
  funext e fr H2
  cases e <;> simp only [ownQ, retQ] <;> (cases finish T lf.results fr H2 <;> simp)
 rw [eQ] at hv
 refine (calls_of_vc hm hT hg hl hn hI hr (fun _ => hv)).mono fun e w' ⟨v, r2, H2, c', he, hq, st, i', rp⟩ => ?_
 obtain ⟨rfl, E, rfl⟩ := hq
 rw [← hlen] at hb hbr
 refine ⟨v, ⟨c'.locs.take H'.length, c'.prot⟩, he, ⟨st.prot, fun k l hl => ?_, st.os, st.tape, st.output, st.size, st.blk, fun b hb => ?_, st.newprot⟩, i'.dropTail hb, rp.drop _ hbr⟩
 ·obtain ⟨l', h1, h2, h3⟩ := st.locs k l hl
  have hk : k < H'.length := by rw [hlen, ← hI.len]; exact (List.getElem?_eq_some_iff.1 hl).1
  exact ⟨l', by simp [hk, h1], h2, h3⟩
 ·obtain ⟨k, l, cap, h1, h2⟩ := hb
  rw [List.getElem?_take] at h1
  split at h1
  ·exact st.newloc b ⟨k, l, cap, h1, h2⟩
  ·cases h1
end Go.Abs

/-
 ABS, part U: the lowered code carried out, for calls whose arguments are known.
-/
namespace Go.Abs
variable {P : Program} {base : Prot}
end Go.Abs

/-
 ABS, part V: strings.Builder: copyCheck and String as functions that write own arrays.
-/
namespace Go.Abs
variable {P : Program} {base : Prot}
theorem RepL.one {c : Ctx} {x : AVal} {vs : List Value} (h : RepL c [x] vs) : ∃ v, vs = [v] ∧ Rep c x v := by
 obtain ⟨h1, h2⟩ := h
 match vs, h1 with
 | [v], _ => exact ⟨v, rfl, h2 0 x v rfl rfl⟩
end Go.Abs

/-
 ABS, part W: from a contract over pure values to what a row asks: arguments that read as data are pure values.
-/
namespace Go.Abs
open Go.RowKit Go.WideShapes Go.ChangeShapes Go.ChangeMaps
variable {P : Program} {base : Prot}
def allCells (W : World) : Prot := fun b o => W.cell? ⟨b, o, none⟩
theorem law_of_fn {f : FuncId} {s : List PVal → Option PVal} (h : FnOk P base f (pureS s)) {W : World} (hb : Prot.le base (allCells W)) {ps : List PVal} {vs : List Value} (hl : vs.length = ps.length)
  (hr : ∀ (j : Nat) x v, ps[j]? = some x → vs[j]? = some v → PRep (allCells W) x v) (hs : s ps = some (.bool true)) :
  Calls P f vs.toArray W fun e W' => e = .returned (.bool true) ∧ Go.RowKit.Below W.heap.size W W' := by
 have hI : Inv base ⟨[], allCells W⟩ [] W := ⟨hb, rfl, fun _ _ _ h => h, fun k e l h => by simp at h, fun k k' l l' g cp cp' h => by simp at h⟩
 refine (h.2 ps (.p (.bool true)) [] (by simp [pureS, hs]) ⟨[], allCells W⟩ W vs hI (PRep.toRep hl hr)).mono fun e w' ⟨v, c', he, st, hI', rp⟩ => ?_
 cases rp with
 | p _ _ rp =>
  cases rp
  exact ⟨he, st.os, st.tape, st.output, st.size, fun k hk => st.blk k hk (fun ⟨j, l, cap, hl, _⟩ => by simp at hl)⟩
section
variable {H : Type} {enc : TypeId × Value → H} {W : World} {sp : Nat → Bool}
end
end Go.Abs

/-
 ABS, part PG: arguments that read as data are pure values: of any type that is made of truth values, whole numbers, strings, slices and structures.
-/
namespace Go.Abs
open Go.RowKit Go.WideShapes Go.ChangeShapes Go.ChangeMaps
section
variable {H : Type} {enc : TypeId × Value → H} {P : Program} {W : World} {sp : Nat → Bool}
def isS (P : Program) (t : TypeId) : Bool := match P.underlying t with
 | some (.struct _) => true
 | _ => false
def ofCells (s : Bool) (c : List PVal) : PVal := if s then .agg c else c.headD .nilp
def HasFs (h : TypeId → List PVal → Prop) : List TypeId → List PVal → Prop
 | [], ps => ps = []
 | f :: r, ps => ∃ a b, ps = a ++ b ∧ h f a ∧ HasFs h r b
def HasTy (P : Program) : Nat → TypeId → List PVal → Prop
 | 0, _, _ => False
 | n + 1, t, ps => match P.underlying t with
  | some .bool => ∃ b, ps = [.bool b]
  | some (.int k) => ∃ z, ps = [.int k z] ∧ k.min ≤ z ∧ z ≤ k.max
  | some .string => ∃ s, ps = [.str s]
  | some (.slice e) => ∃ l : List (List PVal), ps = [.lst (l.map (ofCells (isS P e)))] ∧ ∀ c ∈ l, HasTy P n e c
  | some (.struct fs) => HasFs (HasTy P n) (fs.toList.map (·.type)) ps
  | _ => False
def contig (P : Program) : Nat → Nat → List Field → Bool
 | e, o, [] => o == e
 | e, o, f :: r => f.offset == o && contig P e (o + P.cellsOf f.type) r
def plainTy (P : Program) : Nat → TypeId → Bool
 | 0, _ => false
 | n + 1, t => match P.underlying t with
  | some .bool => true
  | some (.int _) => true
  | some .string => true
  | some (.slice e) => plainTy P n e && decide (0 < P.cellsOf e)
  | some (.struct fs) => (fs.toList.all fun f => plainTy P n f.type) && contig P (P.cellsOf t) 0 fs.toList
  | _ => false
theorem ofCells_cells {n : Nat} {t : TypeId} {c : List PVal} (h : HasTy P n t c) : (ofCells (isS P t) c).cells = c := by
 cases n with
 | zero => exact h.elim
 | succ n =>
  unfold HasTy at h
  unfold isS
  split at h <;> rename_i hu <;> simp only [hu, ofCells]
  ·obtain ⟨b, rfl⟩ := h; rfl
  ·obtain ⟨b, rfl, _⟩ := h; rfl
  ·obtain ⟨b, rfl⟩ := h; rfl
  ·obtain ⟨b, rfl, _⟩ := h; rfl
  ·rfl
  ·exact h.elim
theorem add_bo (a : Addr) (k : Nat) : (a.add k).block = a.block ∧ (a.add k).off = a.off + k := by
 unfold Addr.add
 by_cases h : k = 0
 ·subst h; simp
 ·simp [h]
theorem cell_bo {a : Addr} {v : Value} (h : W.cell? a = some v) : W.cell? ⟨a.block, a.off, none⟩ = some v := by
 have hs := World.cell?_spot h
 rw [← h, ← hs]
theorem cell_add {a : Addr} {k j : Nat} {v : Value} (h : W.cell? ((a.add k).add j) = some v) : W.cell? ⟨a.block, a.off + k + j, none⟩ = some v := by
 have := cell_bo h
 rw [(add_bo _ _).1, (add_bo _ _).2, (add_bo _ _).1, (add_bo _ _).2] at this
 exact this
def GoodCells (W : World) (ps : List PVal) (cs : List Value) : Prop := ps.length = cs.length ∧ (∀ (j : Nat) p v, ps[j]? = some p → cs[j]? = some v → PRep (allCells W) p v) ∧ ∀ p ∈ ps, p.isCell = true
theorem prep_fields {n fuel : Nat} (ih : ∀ t cs x, plainTy P n t = true → DataW.trod enc P W 0 sp true fuel t cs = some x → ∃ ps, HasTy P n t ps ∧ GoodCells W ps cs) (cs : List Value) :
  ∀ (fs : List Field) (o : Nat) xs, contig P cs.length o fs = true → (fs.all fun f => plainTy P n f.type) = true → (fs.mapM fun f => DataW.trod enc P W 0 sp true fuel f.type ((cs.drop f.offset).take (P.cellsOf f.type))) = some xs →
   o ≤ cs.length ∧ ∃ ps, HasFs (HasTy P n) (fs.map (·.type)) ps ∧ GoodCells W ps (cs.drop o)
 | [], o, xs, hc, _, _ => by
  simp only [contig, beq_iff_eq] at hc
  subst hc
  refine ⟨Nat.le_refl _, [], rfl, ?_, ?_, ?_⟩ <;> simp
 | f :: r, o, xs, hc, hp, hm => by
  simp only [contig, Bool.and_eq_true, beq_iff_eq] at hc
  obtain ⟨rfl, hc⟩ := hc
  simp only [List.all_cons, Bool.and_eq_true] at hp
  cases h1 : DataW.trod enc P W 0 sp true fuel f.type ((cs.drop f.offset).take (P.cellsOf f.type)) with
  | none => simp [List.mapM_cons, h1] at hm
  | some y =>
   cases h2 : (r.mapM fun f => DataW.trod enc P W 0 sp true fuel f.type ((cs.drop f.offset).take (P.cellsOf f.type))) with
   | none => simp [List.mapM_cons, h1, h2] at hm
   | some ys =>
    obtain ⟨hle, qs, hq, hql, hqr, hqc⟩ := prep_fields ih cs r _ ys hc hp.2 h2
    obtain ⟨ps, hps, hpl, hpr, hpc⟩ := ih _ _ _ hp.1 h1
    have hlen : ps.length = P.cellsOf f.type := by rw [hpl]; simp; omega
    refine ⟨by omega, ps ++ qs, ⟨ps, qs, rfl, hps, hq⟩, ?_, ?_, ?_⟩
    ·simp only [List.length_append, hql, hlen, List.length_drop]; omega
    ·intro j p v hj hv
     by_cases hlt : j < ps.length
     ·rw [List.getElem?_append_left hlt] at hj
      refine hpr j p v hj ?_
      rw [List.getElem?_take, if_pos (by omega)]
      exact hv
     ·rw [List.getElem?_append_right (by omega)] at hj
      refine hqr (j - ps.length) p v hj ?_
      rw [List.getElem?_drop] at hv ⊢
      rw [← hv]; congr 1; omega
    ·intro p hp'
     rcases List.mem_append.1 hp' with h | h
     ·exact hpc p h
     ·exact hqc p h
theorem prep_cells : ∀ (n : Nat) (fuel : Nat) (t : TypeId) (cs : List Value) x, plainTy P n t = true → DataW.trod enc P W 0 sp true fuel t cs = some x → ∃ ps, HasTy P n t ps ∧ GoodCells W ps cs
 | 0, _, _, _, _, h, _ => by simp [plainTy] at h
 | n + 1, 0, _, _, _, _, h => by simp [DataW.trod] at h
 | n + 1, fuel + 1, t, cs, x, hp, h => by
  have one : ∀ (p : PVal) (v : Value), PRep (allCells W) p v → p.isCell = true → GoodCells W [p] [v] := fun p v h1 h2 => by
   refine ⟨rfl, fun j q w hq hw => ?_, fun q hq => ?_⟩
   ·cases j with
    | zero => simp at hq hw; subst hq; subst hw; exact h1
    | succ j => simp at hq
   ·simp at hq; subst hq; exact h2
  unfold plainTy at hp
  split at hp <;> rename_i hu
  ·obtain ⟨b, rfl, _⟩ := DataW.trod_bool hu h
   refine ⟨[.bool b], ?_, one _ _ (.bool b) rfl⟩
   unfold HasTy; rw [hu]; exact ⟨b, rfl⟩
  ·rename_i k
   unfold DataW.trod at h
   rw [hu] at h
   split at h <;> simp_all
   rename_i k' z hk
   subst hk
   obtain ⟨⟨rfl, hw⟩, _⟩ := h
   refine ⟨[.int _ z], ?_, one _ _ (.int _ z) rfl⟩
   unfold HasTy; rw [hu]
   simp only [Lit.wf, Bool.and_eq_true, decide_eq_true_eq] at hw
   exact ⟨z, rfl, hw⟩
  ·unfold DataW.trod at h
   rw [hu] at h
   split at h <;> simp_all
   rename_i s
   refine ⟨[.str s.data.toList], ?_, one _ _ ?_ rfl⟩
   ·unfold HasTy; rw [hu]; exact ⟨_, rfl⟩
   ·have e : (Value.string s) = .string ⟨s.data.toList.toArray⟩ := by cases s; simp
    rw [e]
    exact .str _ (by rw [Array.length_toList]; exact h.1)
  ·rename_i e
   simp only [Bool.and_eq_true, decide_eq_true_eq] at hp
   obtain ⟨hpe, hpos⟩ := hp
   rcases DataW.trod_slice hu h with ⟨rfl, _⟩ | ⟨a, len, cap, elems, rest, n', hfu, rfl, _, _, hlc, hcm, hl, hel, _, _⟩
   ·refine ⟨[.lst []], ?_, one _ _ (.lst [] none 0 0 1 0 0 (fun _ _ => undef) rfl (Nat.le_refl _) (Nat.zero_le _) (by simp) (by simp) (by simp) (by simp) (by simp)) rfl⟩
    unfold HasTy; rw [hu]; exact ⟨[], rfl, by simp⟩
   ·have each : ∀ i, ∃ c : List PVal, i < len → HasTy P n e c ∧ ∃ vs : List Value, vs.length = P.cellsOf e ∧ (∀ j, j < P.cellsOf e → W.cell? ((a.add (i * P.cellsOf e)).add j) = vs[j]?) ∧ GoodCells W c vs := fun i => by
     by_cases hi : i < len
     ·have := hel i hi
      rw [List.getElem?_eq_getElem (by omega)] at this
      obtain ⟨vs, hvs, ht⟩ := Option.bind_eq_some_iff.1 this
      obtain ⟨_, h1, h2⟩ := World.cells?_some hvs
      obtain ⟨c, hc, hg⟩ := prep_cells n n' e vs _ hpe ht
      exact ⟨c, fun _ => ⟨hc, vs, h1, h2, hg⟩⟩
     ·exact ⟨[], fun h => absurd h hi⟩
    obtain ⟨F, hF⟩ := Classical.axiomOfChoice each
    refine ⟨[.lst (((List.range len).map F).map (ofCells (isS P e)))], ?_, one _ _ ?_ rfl⟩
    ·unfold HasTy; rw [hu]
     refine ⟨(List.range len).map F, rfl, fun c hc => ?_⟩
     obtain ⟨i, hi, rfl⟩ := List.mem_map.1 hc
     exact (hF i (List.mem_range.1 hi)).1
    ·have hcell : ∀ i j, i < len → j < P.cellsOf e → ∃ v, W.cell? ⟨a.block, a.off + i * P.cellsOf e + j, none⟩ = some v ∧ ∀ p, (F i)[j]? = some p → PRep (allCells W) p v := fun i j hi hj => by
      obtain ⟨hT, vs, hl, hc, hg1, hg2, hg3⟩ := hF i hi
      have hv : vs[j]? = some vs[j] := List.getElem?_eq_getElem (by omega)
      have := hc j hj
      rw [hv] at this
      exact ⟨vs[j], cell_add this, fun p hp => hg2 j p _ hp hv⟩
     refine .lst _ (some a) len cap (P.cellsOf e) a.block a.off (fun i j => (W.cell? ⟨a.block, a.off + i * P.cellsOf e + j, none⟩).getD undef) (by simp) hlc hcm (fun hne => ?_) (fun y hy => ?_) (fun i j hi hj => ?_) (fun i y j p hi hj => ?_) (fun y hy p hp => ?_)
     ·have h0 : 0 < len := by
       rcases Nat.eq_zero_or_pos len with h0 | h0
       ·subst h0; simp at hne
       ·exact h0
      obtain ⟨hT, vs, hl, hc, hg⟩ := hF 0 h0
      have hv : vs[0]? = some vs[0] := List.getElem?_eq_getElem (by omega)
      have := hc 0 hpos
      rw [hv, Nat.zero_mul, show (a.add 0).add 0 = a from rfl] at this
      have := World.cell?_spot this
      cases a
      simp at this
      subst this
      rfl
     ·obtain ⟨c, hc, rfl⟩ := List.mem_map.1 hy
      obtain ⟨i, hi, rfl⟩ := List.mem_map.1 hc
      obtain ⟨hT, vs, hl, hc, hg⟩ := hF i (List.mem_range.1 hi)
      rw [ofCells_cells hT, hg.1, hl]
     ·have hi' : i < len := by simpa using hi
      obtain ⟨v, hv, _⟩ := hcell i j hi' hj
      show W.cell? _ = _
      rw [hv]; rfl
     ·have hi' : i < len := by
       have := (List.getElem?_eq_some_iff.1 hi).1
       simpa using this
      have hyi : y = ofCells (isS P e) (F i) := by
       simp [hi'] at hi
       exact hi.symm
      obtain ⟨hT, vs, hl, hc, hg⟩ := hF i hi'
      rw [hyi, ofCells_cells hT] at hj
      have hj' : j < P.cellsOf e := by
       have := (List.getElem?_eq_some_iff.1 hj).1
       rw [hg.1, hl] at this
       exact this
      obtain ⟨v, hv, hr⟩ := hcell i j hi' hj'
      rw [hv]
      exact hr p hj
     ·obtain ⟨c, hc, rfl⟩ := List.mem_map.1 hy
      obtain ⟨i, hi, rfl⟩ := List.mem_map.1 hc
      obtain ⟨hT, vs, hl, hc, hg⟩ := hF i (List.mem_range.1 hi)
      rw [ofCells_cells hT] at hp
      exact hg.2.2 p hp
  ·rename_i fs
   simp only [Bool.and_eq_true] at hp
   unfold DataW.trod at h
   rw [hu] at h
   have h' : (if cs.length = P.cellsOf t then (fs.toList.mapM fun f => DataW.trod enc P W 0 sp true fuel f.type ((cs.drop f.offset).take (P.cellsOf f.type))).map fun xs => (DataW.agg (xs.map (·.1)), xs.flatMap (·.2)) else none) = some x := by
    simpa using h
   clear h
   split at h'
   case isFalse => cases h'
   rename_i hl
   obtain ⟨xs, hxs, _⟩ := Option.map_eq_some_iff.1 h'
   obtain ⟨_, ps, h1, h2⟩ := prep_fields (fun t cs x => prep_cells n fuel t cs x) cs fs.toList 0 xs (by rw [hl]; exact hp.2) hp.1 hxs
   refine ⟨ps, ?_, by simpa using h2⟩
   unfold HasTy; rw [hu]; exact h1
  ·cases hp
theorem prep_val {n : Nat} {t : TypeId} {v : Value} {d : DataW H} {ps : List MemPlace} {r : Reach} {b0 : Nat} (hp : plainTy P n t = true) (hv : Value.okWide P W r b0 t v) (h : DataW.Trod enc P W 0 sp true t v d ps) :
  ∃ c : List PVal, HasTy P n t c ∧ PRep (allCells W) (ofCells (isS P t) c) v := by
 obtain ⟨fuel, hf⟩ := h
 obtain ⟨c, hc, g1, g2, g3⟩ := prep_cells n fuel t _ _ hp hf
 refine ⟨c, hc, ?_⟩
 cases n with
 | zero => exact hc.elim
 | succ n =>
  have one : ∀ p : PVal, c = [p] → v.cells.toList = [v] → PRep (allCells W) p v := fun p e1 e2 => by
   subst e1
   exact g2 0 p v rfl (by rw [e2]; rfl)
  unfold HasTy at hc
  unfold isS
  split at hc <;> rename_i hu <;> simp only [hu, ofCells]
  ·obtain ⟨b, rfl⟩ := hc
   obtain ⟨x, rfl⟩ := okWide_bool hu hv
   exact one _ rfl rfl
  ·obtain ⟨b, rfl, _⟩ := hc
   obtain ⟨x, rfl⟩ := okWide_int hu hv
   exact one _ rfl rfl
  ·obtain ⟨b, rfl⟩ := hc
   obtain ⟨x, rfl⟩ := okWide_string hu hv
   exact one _ rfl rfl
  ·obtain ⟨b, rfl, _⟩ := hc
   obtain ⟨x, y, z, rfl⟩ := okWide_slice hu hv
   exact one _ rfl rfl
  ·obtain ⟨cs, rfl, hsz⟩ := okWide_struct hu hv
   have e : Value.agg cs = .agg cs.toList.toArray := by simp
   rw [e]
   refine .agg c cs.toList (by rw [g1]; rfl) (fun j p v h1 h2 => g2 j p v h1 h2) g3
  ·exact hc.elim
end
end Go.Abs

/-
 ABS, part RF: a range over a function: its rounds, carried out as code of pure values and own arrays.
-/
namespace Go.Abs
open Go.RowKit
variable {P : Program} {base : Prot}
section
variable {gl : Nat → AVal} {n : Nat}
end
end Go.Abs

/-
 ABS, part RG: a function with a range over a function in its straight part.
-/
namespace Go.Abs
open Go.RowKit
variable {P : Program} {base : Prot}
section
variable {gl : Nat → AVal} {n : Nat}
end
end Go.Abs
