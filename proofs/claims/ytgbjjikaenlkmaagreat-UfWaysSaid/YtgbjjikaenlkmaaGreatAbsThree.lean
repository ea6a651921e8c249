/-
  A library of the prover's own, part 3: contracts, rewriting rules, calls carried out, strings.Builder, and what a row asks. No conditions.
-/
import Derived.Test.YtgbjjikaenlkmaaGreatAbsTwo
import Derived.Carry
import Derived.ChangeSlices
import Derived.WideShapes
import Derived.RowKit
import Derived.ChangeMaps5
import Derived.DataReads
import Derived.SliceStrings
import Derived.ChangeSame
set_option linter.unusedSimpArgs false
set_option linter.unnecessarySimpa false
set_option linter.unusedVariables false
set_option linter.constructorNameAsVariable false

/-
 ABS, part S: the evaluation as rewriting rules.
-/
namespace Go.Abs
section
variable {T : Tab} {Q : LExit → AFr → Heap → Prop} {fr : AFr} {H : Heap}
def seqQ (T : Tab) (b : LCode) (Q : LExit → AFr → Heap → Prop) (e : LExit) (fr : AFr) (H : Heap) : Prop := thenQ (fun fr' H' => vc T b Q fr' H') Q e fr H
def bindO (r : Option (AVal × Heap)) (k : AVal → Heap → Prop) : Prop := match r with
 | some (x, H) => k x H
 | none => False
def goL (T : Tab) : List LOper → (LExit → AFr → Heap → Prop) → AFr → Heap → Prop
 | [], Q, fr, H => Q .normal fr H
 | o :: r, Q, fr, H => bindO (evalV T o fr H) fun x H' => goL T r Q (put fr o.dst x) H'
def goD (T : Tab) : List LOper → (LExit → AFr → Heap → Prop) → AFr → Heap → Prop
 | [], Q, fr, H => Q .normal fr H
 | o :: r, Q, fr, H => bindO (evalV T o fr H) fun x H' => H' = H ∧ goD T r Q (put fr o.dst x) H
theorem goL_eq : ∀ (ops : List LOper) (fr : AFr) (H : Heap), goL T ops Q fr H = match evalL T ops fr H with | some (fr', H') => Q .normal fr' H' | none => False
 | [], fr, H => rfl
 | o :: r, fr, H => by
  simp only [goL, evalL, bindO]
  cases evalV T o fr H with
  | none => rfl
  | some p => exact goL_eq r _ _
theorem goD_eq : ∀ (ops : List LOper) (fr : AFr) (H : Heap), goD T ops Q fr H = evalD T H (fun fr' => Q .normal fr' H) ops fr
 | [], fr, H => rfl
 | o :: r, fr, H => by
  simp only [goD, evalD, bindO]
  cases evalV T o fr H with
  | none => rfl
  | some p => simp only [goD_eq r]
theorem vc_skip : vc T .skip Q fr H = Q .normal fr H := (rfl)
theorem vc_region {ops} : vc T (.region ops) Q fr H = goL T ops Q fr H := by rw [goL_eq]; rfl
def goW (T : Tab) (W : List Nat) (N : Nat) : List (LOper × Fl) → (LExit → AFr → Heap → Prop) → AFr → Heap → Prop
 | [], Q, fr, H => Q .normal fr H
 | (o, fl) :: r, Q, fr, H => bindO (evalV T o fr H) fun x H' => condW T W N fl o fr H x H' ∧ goW T W N r Q (put fr o.dst x) H'
theorem goW_eq {W : List Nat} {N : Nat} : ∀ (ops : List (LOper × Fl)) (fr : AFr) (H : Heap), goW T W N ops Q fr H = evalW T W N (fun fr' H' => Q .normal fr' H') ops fr H
 | [], _, _ => rfl
 | (o, fl) :: r, fr, H => by
  simp only [goW, evalW, bindO]
  cases evalV T o fr H with
  | none => rfl
  | some p => simp only [goW_eq r]
theorem vc_regionW {ops} : vc T (.regionW ops) Q fr H = ∃ W : List Nat, goW T W H.length ops Q fr H := by simp only [goW_eq]; rfl
theorem goW_nil {W N} : goW T W N [] Q fr H = Q .normal fr H := (rfl)
def nextW (T : Tab) (W : List Nat) (N : Nat) (p : Option (AVal × Heap)) (fl : Fl) (o : LOper) (H : Heap) (r : List (LOper × Fl)) (Q : LExit → AFr → Heap → Prop) (fr : AFr) : Prop := match p with
 | some (x, H') => condW T W N fl o fr H x H' ∧ goW T W N r Q (put fr o.dst x) H'
 | none => False
theorem nextW_free {W N o r x H'} : nextW T W N (some (x, H')) .f o H r Q fr = goW T W N r Q (put fr o.dst x) H' := by simp [nextW, condW]
theorem nextW_flag {W N o r x H'} : nextW T W N (some (x, H')) .s o H r Q fr = (sideW W N o fr H H' ∧ goW T W N r Q (put fr o.dst x) H') := by simp [nextW, condW]
theorem nextW_steady {W N o r x H'} : nextW T W N (some (x, H')) .t o H r Q fr = ((∀ G, evalV T o fr G = some (x, G)) ∧ goW T W N r Q (put fr o.dst x) H') := by simp [nextW, condW]
theorem nextW_none {W N fl o r} : nextW T W N none fl o H r Q fr = False := (rfl)
theorem goW_cons {W N o fl r} : goW T W N ((o, fl) :: r) Q fr H = nextW T W N (evalV T o fr H) fl o H r Q fr := by simp only [goW, bindO, nextW]
def goN (T : Tab) (W : List Nat) (N : Nat) : List (LOper × Fl) → (LExit → AFr → Heap → Prop) → AFr → Heap → Prop
 | [], Q, fr, H => Q .normal fr H
 | (o, fl) :: r, Q, fr, H => bindO (evalX T N fl o fr H) fun x H' => condW T W N fl o fr H x H' ∧ goN T W N r Q (put fr o.dst x) H'
theorem goN_eq {W : List Nat} {N : Nat} : ∀ (ops : List (LOper × Fl)) (fr : AFr) (H : Heap), goN T W N ops Q fr H = evalN T W N (fun fr' H' => Q .normal fr' H') ops fr H
 | [], _, _ => rfl
 | (o, fl) :: r, fr, H => by
  simp only [goN, evalN, bindO]
  cases evalX T N fl o fr H with
  | none => rfl
  | some p => simp only [goN_eq r]
theorem vc_regionN {R ops} : vc T (.regionN R ops) Q fr H = ∃ W : List Nat, goN T W H.length ops Q fr (H ++ List.replicate R kept) := by simp only [goN_eq]; rfl
theorem goN_nil {W N} : goN T W N [] Q fr H = Q .normal fr H := (rfl)
def nextN (T : Tab) (W : List Nat) (N : Nat) (p : Option (AVal × Heap)) (fl : Fl) (o : LOper) (H : Heap) (r : List (LOper × Fl)) (Q : LExit → AFr → Heap → Prop) (fr : AFr) : Prop := match p with
 | some (x, H') => condW T W N fl o fr H x H' ∧ goN T W N r Q (put fr o.dst x) H'
 | none => False
theorem nextN_free {W N o r x H'} : nextN T W N (some (x, H')) .f o H r Q fr = goN T W N r Q (put fr o.dst x) H' := by simp [nextN, condW]
theorem nextN_flag {W N o r x H'} : nextN T W N (some (x, H')) .s o H r Q fr = (sideW W N o fr H H' ∧ goN T W N r Q (put fr o.dst x) H') := by simp [nextN, condW]
theorem nextN_steady {W N o r x H'} : nextN T W N (some (x, H')) .t o H r Q fr = ((∀ G, evalV T o fr G = some (x, G)) ∧ goN T W N r Q (put fr o.dst x) H') := by simp [nextN, condW]
theorem nextN_kept {W N o r x H' R} : nextN T W N (some (x, H')) (.c R) o H r Q fr = (((N + R ≤ H.length ∧ N + R ≤ H'.length) ∧ sideW W N o fr H H' ∧ ∀ M : Heap, M.length = R → evalV T o fr (midH N R H M) = some (x, midH N R H' M)) ∧ goN T W N r Q (put fr o.dst x) H') := by simp [nextN, condW]
theorem nextN_app {W N o r x H' rs} : nextN T W N (some (x, H')) (.a rs) o H r Q fr = ((sideW W N o fr H H' ∧ ∀ r ∈ rs, N + r < H.length ∧ N + r ∉ appIdx fr o.op) ∧ goN T W N r Q (put fr o.dst x) H') := by simp [nextN, condW]
theorem nextN_new {W N o r x H' k} : nextN T W N (some (x, H')) (.n k) o H r Q fr = goN T W N r Q (put fr o.dst x) H' := by simp [nextN, condW]
theorem nextN_none {W N fl o r} : nextN T W N none fl o H r Q fr = False := (rfl)
theorem goN_cons {W N o fl r} : goN T W N ((o, fl) :: r) Q fr H = nextN T W N (evalX T N fl o fr H) fl o H r Q fr := by simp only [goN, bindO, nextN]
theorem evalX_f {N o} : evalX T N .f o fr H = evalV T o fr H := (rfl)
theorem evalX_s {N o} : evalX T N .s o fr H = evalV T o fr H := (rfl)
theorem evalX_t {N o} : evalX T N .t o fr H = evalV T o fr H := (rfl)
theorem evalX_c {N o R} : evalX T N (.c R) o fr H = evalV T o fr H := (rfl)
theorem evalX_a {N o rs} : evalX T N (.a rs) o fr H = evalV T o fr H := (rfl)
theorem evalX_n {N r o} : evalX T N (.n r) o fr H = newAt (N + r) o.op fr H := (rfl)
theorem vc_regionD {ops} : vc T (.regionD ops) Q fr H = goD T ops Q fr H := by rw [goD_eq]; rfl
theorem vc_seq {a b} : vc T (.seq a b) Q fr H = vc T a (seqQ T b Q) fr H := (rfl)
def condK (T : Tab) (x : AVal) (a b : LCode) (Q : LExit → AFr → Heap → Prop) (fr : AFr) (H : Heap) : Prop := match x with
 | .p (.bool t) => if t = true then vc T a Q fr H else vc T b Q fr H
 | .anyb => vc T a Q fr H ∧ vc T b Q fr H
 | _ => False
theorem vc_cond {c a b} : vc T (.cond c a b) Q fr H = condK T (opd fr c) a b Q fr H := (rfl)
theorem condK_true {a b} : condK T (.p (.bool true)) a b Q fr H = vc T a Q fr H := by simp [condK]
theorem condK_false {a b} : condK T (.p (.bool false)) a b Q fr H = vc T b Q fr H := by simp [condK]
theorem condK_any {a b} : condK T .anyb a b Q fr H = (vc T a Q fr H ∧ vc T b Q fr H) := (rfl)
theorem vc_block {id b} : vc T (.block id b) Q fr H = vc T b (blockQ id Q) fr H := (rfl)
theorem vc_exit {id} : vc T (.exit id) Q fr H = Q (.exit id) fr H := (rfl)
theorem vc_ret : vc T .ret Q fr H = Q .ret fr H := (rfl)
theorem vc_bad : vc T .bad Q fr H = False := (rfl)
theorem seqQ_normal {b} : seqQ T b Q .normal fr H = vc T b Q fr H := (rfl)
theorem seqQ_exit {b id} : seqQ T b Q (.exit id) fr H = Q (.exit id) fr H := (rfl)
theorem seqQ_ret {b} : seqQ T b Q .ret fr H = Q .ret fr H := (rfl)
theorem blockQ_normal {id} : blockQ id Q .normal fr H = Q .normal fr H := (rfl)
theorem blockQ_ret {id} : blockQ id Q .ret fr H = Q .ret fr H := (rfl)
theorem blockQ_same {id} : blockQ id Q (.exit id) fr H = Q .normal fr H := by simp [blockQ]
theorem blockQ_other {id j} (h : j ≠ id) : blockQ id Q (.exit j) fr H = Q (.exit j) fr H := by simp [blockQ, h]
theorem goL_nil : goL T [] Q fr H = Q .normal fr H := (rfl)
def nextL (T : Tab) (p : Option (AVal × Heap)) (r : List LOper) (Q : LExit → AFr → Heap → Prop) (fr : AFr) (d : Option Nat) : Prop := match p with
 | some (x, H') => goL T r Q (put fr d x) H'
 | none => False
theorem nextL_some {r x d} : nextL T (some (x, H)) r Q fr d = goL T r Q (put fr d x) H := (rfl)
theorem nextL_none {r d} : nextL T none r Q fr d = False := (rfl)
theorem goL_cons {o r} : goL T (o :: r) Q fr H = nextL T (evalV T o fr H) r Q fr o.dst := by simp only [goL, bindO, nextL]
theorem goD_nil : goD T [] Q fr H = Q .normal fr H := (rfl)
def nextD (T : Tab) (p : Option (AVal × Heap)) (H : Heap) (r : List LOper) (Q : LExit → AFr → Heap → Prop) (fr : AFr) (d : Option Nat) : Prop := match p with
 | some (x, H') => H' = H ∧ goD T r Q (put fr d x) H
 | none => False
theorem nextD_some {r x d H'} : nextD T (some (x, H')) H r Q fr d = (H' = H ∧ goD T r Q (put fr d x) H) := (rfl)
theorem nextD_none {r d} : nextD T none H r Q fr d = False := (rfl)
theorem goD_cons {o r} : goD T (o :: r) Q fr H = nextD T (evalV T o fr H) H r Q fr o.dst := by simp only [goD, bindO, nextD]
theorem upd_app {d v i} : upd fr d v i = if i = d then v else fr i := (rfl)
theorem put_some {d v} : put fr (some d) v = upd fr d v := (rfl)
theorem put_none {v} : put fr none v = fr := (rfl)
theorem opd_tmp {t} : opd fr (.tmp t) = fr t := (rfl)
theorem opd_cst {x} : opd fr (.cst x) = x := (rfl)
theorem evalV_free {d op} : evalV T ⟨d, none, op⟩ fr H = evalOp T op fr H := (rfl)
def guardO (g : AVal) (want : Bool) (r : Option (AVal × Heap)) (H : Heap) : Option (AVal × Heap) := match g with
 | .p (.bool b) => if b = want then r else some (.p (.tup []), H)
 | .p (.tup _) => some (.p (.tup []), H)
 | _ => none
theorem evalV_guard {d s want op} : evalV T ⟨d, some (s, want), op⟩ fr H = guardO (fr s) want (evalOp T op fr H) H := (rfl)
theorem guardO_hit {b r} : guardO (.p (.bool b)) b r H = r := by simp [guardO]
theorem guardO_tf {r} : guardO (.p (.bool true)) false r H = some (.p (.tup []), H) := (rfl)
theorem guardO_ft {r} : guardO (.p (.bool false)) true r H = some (.p (.tup []), H) := (rfl)
theorem guardO_tup {l want r} : guardO (.p (.tup l)) want r H = some (.p (.tup []), H) := (rfl)
def roundQ (I : AFr → Heap → Prop) (μ : AFr → Heap → Nat) (m : Nat) (Q : LExit → AFr → Heap → Prop) (e : LExit) (fr : AFr) (H : Heap) : Prop := thenQ (fun fr' H' => I fr' H' ∧ μ fr' H' < m) Q e fr H
theorem roundQ_normal {I μ m} : roundQ I μ m Q .normal fr H = (I fr H ∧ μ fr H < m) := (rfl)
theorem roundQ_exit {I μ m id} : roundQ I μ m Q (.exit id) fr H = Q (.exit id) fr H := (rfl)
theorem roundQ_ret {I μ m} : roundQ I μ m Q .ret fr H = Q .ret fr H := (rfl)
theorem loop_ind {b : LCode} (I : AFr → Heap → Prop) (μ : AFr → Heap → Nat) (h0 : I fr H) (h : ∀ fr H, I fr H → vc T b (roundQ I μ (μ fr H) Q) fr H) : vc T (.loop b) Q fr H := ⟨I, μ, h0, h⟩
theorem vc_congr {c} {fr fr' : AFr} {H H' : Heap} (h1 : fr = fr') (h2 : H = H') : vc T c Q fr H = vc T c Q fr' H' := by rw [h1, h2]
theorem seqQ_congr {b e} {fr fr' : AFr} {H H' : Heap} (h1 : fr = fr') (h2 : H = H') : seqQ T b Q e fr H = seqQ T b Q e fr' H' := by rw [h1, h2]
theorem blockQ_congr {id e} {fr fr' : AFr} {H H' : Heap} (h1 : fr = fr') (h2 : H = H') : blockQ id Q e fr H = blockQ id Q e fr' H' := by rw [h1, h2]
theorem bindO_congr {r r' k} (h : r = r') : bindO r k = bindO r' k := by rw [h]
theorem goL_congr {ops} {fr fr' : AFr} {H H' : Heap} (h1 : fr = fr') (h2 : H = H') : goL T ops Q fr H = goL T ops Q fr' H' := by rw [h1, h2]
theorem goD_congr {ops} {fr fr' : AFr} {H H' : Heap} (h1 : fr = fr') (h2 : H = H') : goD T ops Q fr H = goD T ops Q fr' H' := by rw [h1, h2]
theorem condK_congr {x x' a b} {fr fr' : AFr} {H H' : Heap} (h : x = x') (h1 : fr = fr') (h2 : H = H') : condK T x a b Q fr H = condK T x' a b Q fr' H' := by rw [h, h1, h2]
theorem roundQ_congr {I μ m e} {fr fr' : AFr} {H H' : Heap} (h1 : fr = fr') (h2 : H = H') : roundQ I μ m Q e fr H = roundQ I μ m Q e fr' H' := by rw [h1, h2]
theorem guardO_congr {g g' want r} (h : g = g') : guardO g want r H = guardO g' want r H := by rw [h]
def callP (T : Tab) (f : FuncId) (args : List AVal) (H : Heap) : Option (AVal × Heap) := match mapO (resolveV H fuel) args with
 | some ps => match T.fn f ps with
  | some (r, E) => some (shiftV H.length r, freezeL H (args.flatMap (touchV H fuel)) ++ E.map (shiftE H.length))
  | none => none
 | none => none
def callK (p : Option (AVal × Heap)) (T : Tab) (f : FuncId) (args : List AVal) (H : Heap) : Option (AVal × Heap) := match p with
 | some r => some r
 | none => callP T f args H
theorem callF_eq {f args} : callF T f args H = callK (T.mu f args H) T f args H := (rfl)
theorem callK_some {p f args} : callK (some p) T f args H = some p := (rfl)
theorem callK_none {f args} : callK none T f args H = callP T f args H := (rfl)
theorem nextL_congr {p p' r d} {fr fr' : AFr} (h : p = p') (h1 : fr = fr') : nextL T p r Q fr d = nextL T p' r Q fr' d := by rw [h, h1]
theorem nextD_congr {p p' r d} {fr fr' : AFr} {H H' : Heap} (h : p = p') (h1 : fr = fr') (h2 : H = H') : nextD T p H r Q fr d = nextD T p' H' r Q fr' d := by rw [h, h1, h2]
theorem nextW_congr {p p' W N fl o r} {fr fr' : AFr} {H H' : Heap} (h : p = p') (h1 : fr = fr') (h2 : H = H') : nextW T W N p fl o H r Q fr = nextW T W N p' fl o H' r Q fr' := by rw [h, h1, h2]
theorem goN_congr {W N ops} {fr fr' : AFr} {H H' : Heap} (h1 : fr = fr') (h2 : H = H') : goN T W N ops Q fr H = goN T W N ops Q fr' H' := by rw [h1, h2]
theorem nextN_congr {p p' W N fl o r} {fr fr' : AFr} {H H' : Heap} (h : p = p') (h1 : fr = fr') (h2 : H = H') : nextN T W N p fl o H r Q fr = nextN T W N p' fl o H' r Q fr' := by rw [h, h1, h2]
theorem callK_congr {p p' f args} (h : p = p') : callK p T f args H = callK p' T f args H := by rw [h]
theorem goW_congr {W N ops} {fr fr' : AFr} {H H' : Heap} (h1 : fr = fr') (h2 : H = H') : goW T W N ops Q fr H = goW T W N ops Q fr' H' := by rw [h1, h2]
end
attribute [congr] goN_congr nextN_congr goW_congr nextL_congr nextD_congr nextW_congr callK_congr
attribute [simp] nextN_app evalX_a appIdx goN_nil goN_cons nextN_free nextN_flag nextN_steady nextN_new nextN_kept nextN_none evalX_c midH evalX_f evalX_s evalX_t evalX_n newAt kept goW_nil goW_cons nextW_free nextW_flag nextW_steady nextW_none nextL_some nextL_none nextD_some nextD_none callF_eq callK_some callK_none callP sideW readerOp touched idxOf
attribute [congr] vc_congr seqQ_congr blockQ_congr bindO_congr goL_congr goD_congr condK_congr roundQ_congr guardO_congr
attribute [simp] vc_skip vc_region vc_regionD vc_seq vc_cond condK_true condK_false condK_any vc_block vc_exit vc_ret vc_bad seqQ_normal seqQ_exit seqQ_ret blockQ_normal blockQ_ret blockQ_same blockQ_other goL_nil goL_cons goD_nil goD_cons
 upd_app put_some put_none opd_tmp opd_cst evalV_free evalV_guard guardO_hit guardO_tf guardO_ft guardO_tup roundQ_normal roundQ_exit roundQ_ret
 evalOp binV isShift binI unV mapO resolveV resOne finish finishP endQ initFr intOf? optI lenOf? elemsOf sliceOf fromCells putCells allP mkAgg PVal.cells AVal.cells PVal.isCell AVal.isCell AVal.isAgg fillA appV
end Go.Abs

/-
 ABS, part T: own arrays that nobody leads to any more are let go at a function's end.
-/
namespace Go.Abs
variable {P : Program} {base : Prot}
inductive Below (n : Nat) : AVal → Prop
 | junk : Below n .junk
 | anyb : Below n .anyb
 | p (x) : Below n (.p x)
 | tight (es) : Below n (.tight es)
 | own (k off len ver) (h : k < n) : Below n (.own k off len ver)
 | optr (k ver i off) (h : k < n) : Below n (.optr k ver i off)
 | omap (k ver) (h : k < n) : Below n (.omap k ver)
 | nilm : Below n .nilm
 | agg (l : List AVal) (h : ∀ x ∈ l, Below n x) : Below n (.agg l)
 | tup (l : List AVal) (h : ∀ x ∈ l, Below n x) : Below n (.tup l)
 | clo (f) (l : List AVal) (h : ∀ x ∈ l, Below n x) : Below n (.clo f l)
theorem Rep.under {c : Ctx} {x : AVal} {v : Value} (r : Rep c x v) : Below c.locs.length x := by
 induction r with
 | junk => exact .junk
 | anyb => exact .anyb
 | p => exact .p _
 | tight => exact .tight _
 | own k off len ver l v hl => exact .own _ _ _ _ (List.getElem?_eq_some_iff.1 hl).1
 | optr k ver i off l v hl => exact .optr _ _ _ _ (List.getElem?_eq_some_iff.1 hl).1
 | nilm => exact .nilm
 | omap k ver l v hl => exact .omap _ _ (List.getElem?_eq_some_iff.1 hl).1
 | agg cells vs hl hr hk ih =>
  refine .agg _ fun x hx => ?_
  obtain ⟨j, hj, rfl⟩ := List.getElem_of_mem hx
  exact ih j _ (vs[j]'(by omega)) (by simp) (by simp [hl, hj])
 | tup l vs hl hr ih =>
  refine .tup _ fun x hx => ?_
  obtain ⟨j, hj, rfl⟩ := List.getElem_of_mem hx
  exact ih j _ (vs[j]'(by omega)) (by simp) (by simp [hl, hj])
 | clo f l vs hl hr ih =>
  refine .clo _ _ fun x hx => ?_
  obtain ⟨j, hj, rfl⟩ := List.getElem_of_mem hx
  exact ih j _ (vs[j]'(by omega)) (by simp) (by simp [hl, hj])
theorem Rep.drop {c : Ctx} {x : AVal} {v : Value} (r : Rep c x v) (n : Nat) (h : Below n x) : Rep ⟨c.locs.take n, c.prot⟩ x v := by
 induction r with
 | junk v => exact .junk v
 | anyb b => exact .anyb b
 | p x v hr => exact .p x v hr
 | tight es a m hn hr hz => exact .tight es a m hn hr hz
 | own k off len ver l v hl hv hh ho =>
  cases h with | own _ _ _ _ h => exact .own k off len ver l v (by simp [h, hl]) hv hh ho
 | optr k ver i off l v hl hv hh ho =>
  cases h with | optr _ _ _ _ h => exact .optr k ver i off l v (by simp [h, hl]) hv hh ho
 | nilm => exact .nilm
 | omap k ver l v hl hv hh ho =>
  cases h with | omap _ _ h => exact .omap k ver l v (by simp [h, hl]) hv hh ho
 | agg cells vs hl hr hk ih =>
  cases h with | agg _ h => exact .agg cells vs hl (fun j x v h1 h2 => ih j x v h1 h2 (h x (List.mem_of_getElem? h1))) hk
 | tup l vs hl hr ih =>
  cases h with | tup _ h => exact .tup l vs hl (fun j x v h1 h2 => ih j x v h1 h2 (h x (List.mem_of_getElem? h1)))
 | clo f l vs hl hr ih =>
  cases h with | clo _ _ h => exact .clo f l vs hl (fun j x v h1 h2 => ih j x v h1 h2 (h x (List.mem_of_getElem? h1)))
def BelowH (n : Nat) (H : Heap) : Prop := ∀ e ∈ H, ∀ x ∈ e.elems, ∀ y ∈ x.cells, Below n y
theorem Inv.belowH {c : Ctx} {H : Heap} {w : World} (hI : Inv base c H w) : BelowH H.length H := by
 intro e he x hx y hy
 obtain ⟨k, hk, rfl⟩ := List.getElem_of_mem he
 obtain ⟨l, hl, ok⟩ := hI.loc (k := k) (e := H[k]) (by simp)
 obtain ⟨i, hi, rfl⟩ := List.getElem_of_mem hx
 rw [← hI.len]
 cases hp : l.place with
 | none => have := ok.nowhere hp; simp [this] at hi
 | some q =>
  cases hm : l.mp with
  | true =>
   obtain ⟨es, ck, _, _, a3⟩ := ok.mapped q.1 q.2 hp hm
   obtain ⟨me, n, z, _, _, e, _⟩ := a3 i _ (List.getElem?_eq_getElem hi)
   rw [e] at hy
   simp only [AVal.cells, List.mem_map] at hy
   obtain ⟨u, _, rfl⟩ := hy
   exact .p _
  | false =>
   obtain ⟨j, hj, rfl⟩ := List.getElem_of_mem hy
   obtain ⟨cur, ty, _, _, _, _, a5, _⟩ := ok.there q.1 q.2 hp hm
   obtain ⟨v, _, r⟩ := a5 i _ j _ (by simp [hi]) (List.getElem?_eq_getElem hj)
   exact r.under
theorem Inv.dropTail {c : Ctx} {H E : Heap} {w : World} (hI : Inv base c (H ++ E) w) (h : BelowH H.length H) : Inv base ⟨c.locs.take H.length, c.prot⟩ H w := by
 have get : ∀ {k : Nat} {l : Loc}, (c.locs.take H.length)[k]? = some l → c.locs[k]? = some l ∧ k < H.length := fun {k l} h => by
  rw [List.getElem?_take] at h
  split at h
  ·exact ⟨h, by assumption⟩
  ·cases h
 refine ⟨hI.base, by simp [hI.len], hI.prot, fun k e l h1 h2 => ?_, fun k k' l l' g cp cp' h1 h2 => hI.inj k k' l l' g cp cp' (get h1).1 (get h2).1⟩
 obtain ⟨h2', hk⟩ := get h2
 have ok := hI.ent k e l (by rw [List.getElem?_append_left hk]; exact h1) h2'
 refine ⟨ok.ver, ok.size, ok.pos, ok.cells, ok.nowhere, ok.typed, fun g cap hp hm => ok.mapped g cap hp hm, fun g cap hp hm => ?_⟩
 obtain ⟨cur, ty, a1, a2, a3, a4, a5, a6⟩ := ok.there g cap hp hm
 exact ⟨cur, ty, a1, a2, a3, a4, fun i x j y hx hy => let ⟨v, r1, r2⟩ := a5 i x j y hx hy; ⟨v, r1, r2.drop _ (h e (List.mem_of_getElem? h1) x (List.mem_of_getElem? hx) y (List.mem_of_getElem? hy))⟩, a6⟩
def ownQ (T : Tab) (rs : List LRes) (r : AVal) (H' : Heap) : LExit → AFr → Heap → Prop
 | .exit _, _, _ => False
 | _, fr, H => finish T rs fr H = some r ∧ ∃ E, H = H' ++ E
theorem own_of_vc' {gl : Nat → AVal} {T : Tab} (hm : P.follows .mixedOrders = true) (hT : TabOk P base T) (hg : GlobOk base gl) {f : FuncId} {lf : LFunc} (hl : lowFunc P gl f = some lf) {m : List AVal → Heap → Option (AVal × Heap)}
  (h : ∀ args H r H', m args H = some (r, H') → (∀ x ∈ args, ∀ y, x = .p y → Fits y) → BelowH H.length H → args.length ≤ lf.n ∧ H'.length = H.length ∧ BelowH H.length H' ∧ Below H.length r ∧ vc T lf.body (ownQ T lf.results r H') (initFr args) H) : MuOk P base f m := by
 refine ⟨goodFn_of_low hl, fun args H r H' hs c w vs hI hr => ?_⟩
 have hfit : ∀ x ∈ args, ∀ y, x = .p y → Fits y := fun x hx y hy => by
  subst hy
  obtain ⟨j, hj, hxj⟩ := List.getElem_of_mem hx
  have hlen := hr.1
  have := hr.2 j (.p y) (vs[j]'(by omega)) (by rw [List.getElem?_eq_getElem hj, hxj]) (by simp [hlen, hj])
  cases this with
  | p _ _ hp => exact ⟨_, _, hp⟩
 obtain ⟨hn, hlen, hb, hbr, hv⟩ := h args H r H' hs hfit hI.belowH
 have eQ : ownQ T lf.results r H' = retQ T lf.results fun r2 H2 => r2 = r ∧ ∃ E, H2 = H' ++ E := by
  funext e fr H2
  cases e <;> simp only [ownQ, retQ] <;> (cases finish T lf.results fr H2 <;> simp)
 rw [eQ] at hv
 refine (calls_of_vc hm hT hg hl hn hI hr (fun _ => hv)).mono fun e w' ⟨v, r2, H2, c', he, hq, st, i', rp⟩ => ?_
 obtain ⟨rfl, E, rfl⟩ := hq
 rw [← hlen] at hb hbr
 refine ⟨v, ⟨c'.locs.take H'.length, c'.prot⟩, he, ⟨st.prot, fun k l hl => ?_, st.os, st.tape, st.output, st.size, st.blk, fun b hb => ?_, st.newprot⟩, i'.dropTail hb, rp.drop _ hbr⟩
 ·obtain ⟨l', h1, h2, h3⟩ := st.locs k l hl
  have hk : k < H'.length := by rw [hlen, ← hI.len]; exact (List.getElem?_eq_some_iff.1 hl).1
  exact ⟨l', by simp [hk, h1], h2, h3⟩
 ·obtain ⟨k, l, cap, h1, h2⟩ := hb
  rw [List.getElem?_take] at h1
  split at h1
  ·exact st.newloc b ⟨k, l, cap, h1, h2⟩
  ·cases h1
def freshQ (T : Tab) (rs : List LRes) (size : Nat) (ty : TypeId) (es : List PVal) : LExit → AFr → Heap → Prop
 | .exit _, _, _ => False
 | _, fr, H => ∃ k ver e, finish T rs fr H = some (.own k 0 es.length ver) ∧ H[k]? = some e ∧ e.ver = ver ∧ e.size = size ∧ e.ty = ty ∧ e.elems = es.map .p ∧ e.froz = false
def freshS (size : Nat) (ty : TypeId) (s : List PVal → Option (List PVal)) (args : List PVal) : Option (AVal × Heap) := match s args with
 | some es => some (.own 0 0 es.length 0, [⟨size, 0, false, es.map .p, ty⟩])
 | none => none
theorem fresh_of_vc {gl : Nat → AVal} {T : Tab} (hm : P.follows .mixedOrders = true) (hT : TabOk P base T) (hg : GlobOk base gl) {f : FuncId} {lf : LFunc} (hl : lowFunc P gl f = some lf) {size : Nat} {ty : TypeId} {s : List PVal → Option (List PVal)}
  (h : ∀ args es, s args = some es → (∀ y ∈ args, Fits y) → args.length ≤ lf.n ∧ vc T lf.body (freshQ T lf.results size ty es) (initFr (args.map .p)) []) :
  FnOk P base f (freshS size ty s) := by
 refine ⟨goodFn_of_low hl, fun args r E hs c w vs hI hr => ?_⟩
 unfold freshS at hs
 cases hx : s args with
 | none => rw [hx] at hs; cases hs
 | some es =>
  rw [hx] at hs
  cases hs
  have hfit : ∀ y ∈ args, Fits y := fun y hy => by
   obtain ⟨j, hj, rfl⟩ := List.getElem_of_mem hy
   have hlen := hr.1
   simp only [List.length_map] at hlen
   have := hr.2 j (.p args[j]) (vs[j]'(by omega)) (by simp) (by simp [hlen, hj])
   cases this with
   | p _ _ hp => exact ⟨_, _, hp⟩
  have h0 : c.locs = [] := List.length_eq_zero_iff.1 (by rw [hI.len]; rfl)
  obtain ⟨hn, hv⟩ := h args es hx hfit
  have eQ : freshQ T lf.results size ty es = retQ T lf.results fun r H => ∃ k ver e, r = .own k 0 es.length ver ∧ H[k]? = some e ∧ e.ver = ver ∧ e.size = size ∧ e.ty = ty ∧ e.elems = es.map .p ∧ e.froz = false := by
   funext e fr H
   cases e <;> simp only [freshQ, retQ] <;> (cases finish T lf.results fr H <;> simp)
  rw [eQ] at hv
  refine (calls_of_vc hm hT hg hl (by simpa using hn) hI hr (fun _ => hv)).mono fun e w' ⟨v, r, H', c', he, hq, st, i', rp⟩ => ?_
  obtain ⟨k, ver, en, rfl, hk, rfl, rfl, rfl, hel, hfz⟩ := hq
  obtain ⟨l, hl, ok, hv⟩ := own_val i' rp hk rfl
  have hget : ∀ {j : Nat} {l2 : Loc}, ([⟨0, l.size, l.place, l.mp⟩] : List Loc)[j]? = some l2 → j = 0 ∧ l2 = ⟨0, l.size, l.place, l.mp⟩ := fun {j l2} h => by
   cases j with
   | zero => simp at h; exact ⟨rfl, h.symm⟩
   | succ j => simp at h
  refine ⟨v, ⟨[⟨0, l.size, l.place, l.mp⟩], c'.prot⟩, he, ⟨st.prot, fun k l hl => ?_, st.os, st.tape, st.output, st.size, st.blk, fun b hb => ?_, st.newprot⟩, ⟨i'.base, rfl, i'.prot, fun j e l2 h1 h2 => ?_, fun j j' l2 l2' g cp cp' h1 h2 h3 h4 => by rw [(hget h1).1, (hget h2).1]⟩, ?_⟩
  ·rw [h0] at hl; simp at hl
  ·obtain ⟨j, l2, cap, h1, h2⟩ := hb
   obtain ⟨rfl, rfl⟩ := hget h1
   exact st.newloc b ⟨k, l, cap, hl, h2⟩
  ·obtain ⟨rfl, rfl⟩ := hget h2
   simp at h1
   subst h1
   refine ⟨rfl, ok.size, ok.pos, by rw [← hel]; exact ok.cells, fun h => by rw [← hel]; exact ok.nowhere h, ok.typed, (fun g cap hp hm => let ⟨es, ck, a1, a2, a3⟩ := ok.mapped g cap hp hm; ⟨es, ck, a1, by rw [← hel]; exact a2, by rw [← hel]; exact a3⟩), fun g cap hp hm => ?_⟩
   obtain ⟨cur, ty, a1, a2, a3, a4, a5, a6⟩ := ok.there g cap hp hm
   refine ⟨cur, ty, a1, a2, a3, by rw [← hel]; exact a4, fun i x j y hx hy => ?_, fun o v ho => by rw [← hfz, ← hel]; exact a6 o v ho⟩
   rw [← hel] at hx
   obtain ⟨v, r1, r2⟩ := a5 i x j y hx hy
   refine ⟨v, r1, ?_⟩
   rw [hel] at hx
   rw [List.getElem?_map] at hx
   obtain ⟨z, hz, rfl⟩ := Option.map_eq_some_iff.1 hx
   simp only [AVal.cells, List.getElem?_map] at hy
   obtain ⟨u, hu, rfl⟩ := Option.map_eq_some_iff.1 hy
   cases r2 with
   | p _ _ r => exact .p _ _ r
  ·exact .own 0 0 _ 0 ⟨0, l.size, l.place, l.mp⟩ v rfl (Nat.le_refl _) (fun _ => hv) (by obtain ⟨a, cp, rfl, _⟩ := hv.slice; exact ⟨a, _, _, rfl⟩)
def letQ (T : Tab) (rs : List LRes) (p : PVal) (H' : Heap) : LExit → AFr → Heap → Prop
 | .exit _, _, _ => False
 | _, fr, H => ∃ r E, finish T rs fr H = some r ∧ H = H' ++ E ∧ resolveV H fuel r = some p ∧ ∀ k ∈ touchV H fuel r, H'.length ≤ k
theorem freezeL_tail : ∀ (ks : List Nat) (H E : Heap), (∀ k ∈ ks, H.length ≤ k) → ∃ E', freezeL (H ++ E) ks = H ++ E'
 | [], H, E, _ => ⟨E, rfl⟩
 | k :: ks, H, E, h => by
  have hk := h k (by simp)
  have : ∃ E1, freeze1 (H ++ E) k = H ++ E1 := by
   unfold freeze1
   split
   ·exact ⟨_, by rw [List.set_append_right _ _ hk]⟩
   ·exact ⟨E, rfl⟩
  obtain ⟨E1, h1⟩ := this
  obtain ⟨E2, h2⟩ := freezeL_tail ks H E1 (fun k hk => h k (by simp [hk]))
  refine ⟨E2, ?_⟩
  rw [← h2, ← h1]
  rfl
theorem own_of_vcR {gl : Nat → AVal} {T : Tab} (hm : P.follows .mixedOrders = true) (hT : TabOk P base T) (hg : GlobOk base gl) {f : FuncId} {lf : LFunc} (hl : lowFunc P gl f = some lf) {m : List AVal → Heap → Option (AVal × Heap)}
  (h : ∀ args H r H', m args H = some (r, H') → (∀ x ∈ args, ∀ y, x = .p y → Fits y) → BelowH H.length H → args.length ≤ lf.n ∧ H'.length = H.length ∧ BelowH H.length H' ∧ ∃ p, r = .p p ∧ vc T lf.body (letQ T lf.results p H') (initFr args) H) : MuOk P base f m := by
 refine ⟨goodFn_of_low hl, fun args H r H' hs c w vs hI hr => ?_⟩
 have hfit : ∀ x ∈ args, ∀ y, x = .p y → Fits y := fun x hx y hy => by
  subst hy
  obtain ⟨j, hj, hxj⟩ := List.getElem_of_mem hx
  have hlen := hr.1
  have := hr.2 j (.p y) (vs[j]'(by omega)) (by rw [List.getElem?_eq_getElem hj, hxj]) (by simp [hlen, hj])
  cases this with
  | p _ _ hp => exact ⟨_, _, hp⟩
 obtain ⟨hn, hlen, hb, p, rfl, hv⟩ := h args H r H' hs hfit hI.belowH
 have eQ : letQ T lf.results p H' = retQ T lf.results fun r2 H2 => ∃ E, H2 = H' ++ E ∧ resolveV H2 fuel r2 = some p ∧ ∀ k ∈ touchV H2 fuel r2, H'.length ≤ k := by
  funext e fr H2
  cases e <;> simp only [letQ, retQ] <;> (cases finish T lf.results fr H2 <;> simp)
 rw [eQ] at hv
 refine (calls_of_vc hm hT hg hl hn hI hr (fun _ => hv)).mono fun e w' ⟨v, r2, H2, c', he, hq, st, i', rp⟩ => ?_
 obtain ⟨E, rfl, hx, ht⟩ := hq
 obtain ⟨c2, e2, s2, i2, p2⟩ := i'.freezeL (touchV (H' ++ E) fuel r2)
 have same := same_freezeL (touchV (H' ++ E) fuel r2) (H' ++ E)
 have hp : PRep c2.prot p v := by
  rw [resolve_same same] at hx
  refine resolve_ok i2 fuel r2 v p (rp.step s2) hx (fun k hk => ?_)
  rw [← touch_same same] at hk
  exact (p2 k hk).step rfl (fun _ _ _ h => h) (fun e he => freezeL_get _ (H' ++ E) k e he)
   (fun e l g cap a b d hm o ho => i'.cell_at a (by rw [← e2]; exact b) d hm o ho)
 obtain ⟨E', hE'⟩ := freezeL_tail _ H' E ht
 rw [hE'] at i2
 rw [← hlen] at hb
 have st := st.trans s2
 refine ⟨v, ⟨c2.locs.take H'.length, c2.prot⟩, he, ⟨st.prot, fun k l hl => ?_, st.os, st.tape, st.output, st.size, st.blk, fun b hb => ?_, st.newprot⟩, i2.dropTail hb, .p _ _ hp⟩
 ·obtain ⟨l', h1, h2, h3⟩ := st.locs k l hl
  have hk : k < H'.length := by rw [hlen, ← hI.len]; exact (List.getElem?_eq_some_iff.1 hl).1
  exact ⟨l', by simp [hk, h1], h2, h3⟩
 ·obtain ⟨k, l, cap, h1, h2⟩ := hb
  rw [List.getElem?_take] at h1
  split at h1
  ·exact st.newloc b ⟨k, l, cap, h1, h2⟩
  ·cases h1
end Go.Abs

/-
 ABS, part U: the lowered code carried out, for calls whose arguments are known.
-/
namespace Go.Abs
variable {P : Program} {base : Prot}
def eqAll {α : Type} (f : α → α → Bool) : List α → List α → Bool
 | [], [] => true
 | x :: xs, y :: ys => f x y && eqAll f xs ys
 | _, _ => false
theorem eqAll_ok {α : Type} {f : α → α → Bool} (h : ∀ a b, f a b = true → a = b) : ∀ a b, eqAll f a b = true → a = b
 | [], [], _ => rfl
 | x :: xs, y :: ys, e => by
  simp only [eqAll, Bool.and_eq_true] at e
  rw [h x y e.1, eqAll_ok h xs ys e.2]
 | [], _ :: _, e => by simp [eqAll] at e
 | _ :: _, [], e => by simp [eqAll] at e
def eqP : Nat → PVal → PVal → Bool
 | n + 1, x, y => match x, y with
  | .bool a, .bool b => a == b
  | .int k a, .int k' b => decide (k = k') && decide (a = b)
  | .str a, .str b => decide (a = b)
  | .lst a, .lst b => eqAll (eqP n) a b
  | .nilp, .nilp => true
  | .cptr a, .cptr b => eqAll (eqP n) a b
  | .clo f a, .clo g b => decide (f = g) && eqAll (eqP n) a b
  | .nilf, .nilf => true
  | .nili, .nili => true
  | .agg a, .agg b => eqAll (eqP n) a b
  | .tup a, .tup b => eqAll (eqP n) a b
  | _, _ => false
 | 0, _, _ => false
theorem eqP_ok : ∀ n a b, eqP n a b = true → a = b
 | 0, _, _, h => by simp [eqP] at h
 | n + 1, a, b, h => by
  have ih := eqAll_ok (eqP_ok n)
  unfold eqP at h
  split at h <;> first | rfl | (cases h; done) | (rw [ih _ _ h]; done) | (simp only [beq_iff_eq, decide_eq_true_eq, Bool.and_eq_true] at h; first | (rw [h]; done) | (rw [h.1, h.2]; done) | (rw [h.1, ih _ _ h.2]; done))
def eqV : Nat → AVal → AVal → Bool
 | n + 1, x, y => match x, y with
  | .junk, .junk => true
  | .anyb, .anyb => true
  | .p a, .p b => eqP n a b
  | .tight a, .tight b => eqAll (eqP n) a b
  | .own k o l v, .own k' o' l' v' => decide (k = k') && (decide (o = o') && (decide (l = l') && decide (v = v')))
  | .optr k o l v, .optr k' o' l' v' => decide (k = k') && (decide (o = o') && (decide (l = l') && decide (v = v')))
  | .omap k v, .omap k' v' => decide (k = k') && decide (v = v')
  | .nilm, .nilm => true
  | .agg a, .agg b => eqAll (eqV n) a b
  | .tup a, .tup b => eqAll (eqV n) a b
  | .clo f a, .clo g b => decide (f = g) && eqAll (eqV n) a b
  | _, _ => false
 | 0, _, _ => false
theorem eqV_ok : ∀ n a b, eqV n a b = true → a = b
 | 0, _, _, h => by simp [eqV] at h
 | n + 1, a, b, h => by
  have ih := eqAll_ok (eqV_ok n)
  have ip := eqAll_ok (eqP_ok n)
  unfold eqV at h
  split at h <;> first | rfl | (cases h; done) | (rw [eqP_ok _ _ _ h]; done) | (rw [ip _ _ h]; done) | (rw [ih _ _ h]; done) | (simp only [decide_eq_true_eq, Bool.and_eq_true] at h; first | (rw [h.1, h.2.1, h.2.2.1, h.2.2.2]; done) | (rw [h.1, h.2]; done) | (rw [h.1, ih _ _ h.2]; done))
def eqE (n : Nat) (a b : Ent) : Bool := decide (a.size = b.size) && (decide (a.ver = b.ver) && (decide (a.froz = b.froz) && (decide (a.ty = b.ty) && eqAll (eqV n) a.elems b.elems)))
theorem eqE_ok (n : Nat) (a b : Ent) (h : eqE n a b = true) : a = b := by
 simp only [eqE, decide_eq_true_eq, Bool.and_eq_true] at h
 obtain ⟨h1, h2, h3, h4, h5⟩ := h
 have := eqAll_ok (eqV_ok n) _ _ h5
 cases a; cases b
 simp_all
def eqH (a b : Heap) : Bool := eqAll (eqE 40) a b
theorem eqH_ok {a b : Heap} (h : eqH a b = true) : a = b := eqAll_ok (eqE_ok 40) a b h
noncomputable def least (p : Nat → Prop) : Nat := Classical.epsilon fun n => p n ∧ ∀ m, p m → n ≤ m
theorem least_spec {p : Nat → Prop} (h : ∃ n, p n) : p (least p) ∧ ∀ m, p m → least p ≤ m := by
 have : ∃ n, p n ∧ ∀ m, p m → n ≤ m := by
  obtain ⟨n, hn⟩ := h
  induction n using Nat.strongRecOn with
  | _ n ih =>
   by_cases hm : ∃ m, m < n ∧ p m
   ·obtain ⟨m, h1, h2⟩ := hm
    exact ih m h1 h2
   ·exact ⟨n, hn, fun m h2 => Nat.le_of_not_lt fun h1 => hm ⟨m, h1, h2⟩⟩
 exact Classical.epsilon_spec this
end Go.Abs

/-
 ABS, part UK: the lowered code carried out, as the kernel can: calls whose answers are pure values.
-/
namespace Go.Abs.K
variable {P : Program} {base : Prot}
def shiftC (n : Nat) (x : AVal) : AVal := match x with
 | .p y => .p y
 | .tight l => .tight l
 | .own k off len ver => .own (n + k) off len ver
 | .optr k ver i off => .optr (n + k) ver i off
 | .omap k ver => .omap (n + k) ver
 | y => shiftV n y
theorem shiftC_eq (n : Nat) (x : AVal) : shiftC n x = shiftV n x := by cases x <;> simp [shiftC, shiftV]
def shiftEC (n : Nat) (e : Ent) : Ent := ⟨e.size, e.ver, e.froz, e.elems.map (shiftC n), e.ty⟩
theorem shiftEC_eq (n : Nat) : shiftEC n = shiftE n := by
 funext e
 unfold shiftEC shiftE
 have h : shiftC n = shiftV n := funext (shiftC_eq n)
 rw [h]
def callC (T : Tab) (f : FuncId) (args : List AVal) (H : Heap) : Option (AVal × Heap) :=
 match T.mu f args H with
 | some r => some r
 | none => match mapO (resolveV H fuel) args with
  | some ps => match T.fn f ps with
   | some (r, E) => some (shiftC H.length r, freezeL H (args.flatMap (touchV H fuel)) ++ E.map (shiftEC H.length))
   | none => none
  | none => none
theorem callC_eq (T : Tab) (f : FuncId) (args : List AVal) (H : Heap) : callC T f args H = callF T f args H := by
 unfold callC callF
 simp only [shiftC_eq, shiftEC_eq]
 cases T.mu f args H with
 | some r => rfl
 | none => cases mapO (resolveV H fuel) args with
  | none => rfl
  | some ps => rfl
def evalC (T : Tab) (o : LOper) (fr : AFr) (H : Heap) : Option (AVal × Heap) := match o.op with
 | .call f args => match o.guard with
  | none => callC T f (args.map (opd fr)) H
  | some (s, want) => match fr s with
   | .p (.bool b) => if b = want then callC T f (args.map (opd fr)) H else some (.p (.tup []), H)
   | .p (.tup _) => some (.p (.tup []), H)
   | _ => none
 | _ => evalV T o fr H
theorem evalC_eq (T : Tab) (o : LOper) (fr : AFr) (H : Heap) : evalC T o fr H = evalV T o fr H := by
 unfold evalC
 split
 ·rename_i f args ho
  unfold evalV
  rw [ho]
  simp only [evalOp, callC_eq]
  cases o.guard with
  | none => rfl
  | some g => obtain ⟨s, w⟩ := g; rfl
 ·rfl
abbrev OutK := LExit × List AVal × Heap
def putLK (l : List AVal) (d : Option Nat) (x : AVal) : Option (List AVal) := match d with
 | none => some l
 | some d => if d < l.length then some (l.set d x) else none
theorem putL_okK {l l' : List AVal} {d : Option Nat} {x : AVal} (h : putLK l d x = some l') : put (initFr l) d x = initFr l' := by
 unfold putLK at h
 split at h
 ·cases h; rfl
 ·rename_i d
  split at h
  case isFalse => cases h
  rename_i hd
  cases h
  funext i
  simp only [put, upd, initFr]
  by_cases e : i = d
  ·subst e; rw [if_pos rfl, List.getElem?_set_self hd]
  ·rw [if_neg e, List.getElem?_set_ne (Ne.symm e)]
def runOpsK (T : Tab) : List LOper → List AVal → Heap → Option (List AVal × Heap)
 | [], l, H => some (l, H)
 | o :: r, l, H => match evalC T o (initFr l) H with
  | some (x, H') => match putLK l o.dst x with | some l' => runOpsK T r l' H' | none => none
  | none => none
theorem runOps_okK {T : Tab} : ∀ (ops : List LOper) (l : List AVal) (H : Heap) (l' : List AVal) (H' : Heap), runOpsK T ops l H = some (l', H') → evalL T ops (initFr l) H = some (initFr l', H')
 | [], l, H, l', H', h => by cases h; rfl
 | o :: r, l, H, l', H', h => by
  unfold runOpsK at h
  rw [evalC_eq] at h
  split at h
  case h_2 => cases h
  rename_i x H1 hx
  split at h
  case h_2 => cases h
  rename_i l1 hl
  unfold evalL
  rw [hx]
  simp only
  rw [putL_okK hl]
  exact runOps_okK r l1 H1 l' H' h
def runDK (T : Tab) : List LOper → List AVal → Heap → Option (List AVal)
 | [], l, _ => some l
 | o :: r, l, H => match evalC T o (initFr l) H with
  | some (x, H') => if eqH H' H = true then (match putLK l o.dst x with | some l' => runDK T r l' H | none => none) else none
  | none => none
theorem runD_okK {T : Tab} {Q : AFr → Prop} : ∀ (ops : List LOper) (l : List AVal) (H : Heap) (l' : List AVal), runDK T ops l H = some l' → Q (initFr l') → evalD T H Q ops (initFr l)
 | [], l, H, l', h, hq => by cases h; exact hq
 | o :: r, l, H, l', h, hq => by
  unfold runDK at h
  rw [evalC_eq] at h
  split at h
  case h_2 => cases h
  rename_i x H1 hx
  split at h
  case isFalse => cases h
  rename_i he
  split at h
  case h_2 => cases h
  rename_i l1 hl
  unfold evalD
  rw [hx]
  simp only
  rw [putL_okK hl]
  exact ⟨eqH_ok he, runD_okK r l1 H l' h hq⟩
def changedK (N : Nat) (H H' : Heap) : List Nat := (List.range N).filter fun k => !(match H[k]?, H'[k]? with | some a, some b => eqE 40 a b | none, none => true | _, _ => false)
def sideBK (W : List Nat) (N : Nat) (o : LOper) (fr : AFr) (H H' : Heap) : Bool :=
 if readerOp o.op = true then (touched fr o.op).all fun k => decide (k < N) && !W.contains k
 else (List.range N).all fun k => W.contains k || (match H[k]?, H'[k]? with | some a, some b => eqE 40 b a | none, none => true | _, _ => false)
theorem sideB_okK {W : List Nat} {N : Nat} {o : LOper} {fr : AFr} {H H' : Heap} (h : sideBK W N o fr H H' = true) : sideW W N o fr H H' := by
 unfold sideBK at h
 unfold sideW
 split at h
 ·rename_i hr
  rw [if_pos hr]
  intro k hk
  have := List.all_eq_true.1 h k hk
  simp only [Bool.and_eq_true, decide_eq_true_eq, Bool.not_eq_true'] at this
  exact ⟨this.1, by simpa using this.2⟩
 ·rename_i hr
  rw [if_neg hr]
  intro k hk hw
  have := List.all_eq_true.1 h k (List.mem_range.2 hk)
  simp only [Bool.or_eq_true] at this
  rcases this with h1 | h1
  ·exact absurd (by simpa using h1) hw
  ·split at h1
   ·rename_i a b ha hb
    rw [ha, hb, eqE_ok _ _ _ h1]
   ·rename_i ha hb
    rw [ha, hb]
   ·cases h1
def wOfK (T : Tab) (N : Nat) : List (LOper × Fl) → List AVal → Heap → List Nat
 | [], _, _ => []
 | (o, fl) :: r, l, H => match evalC T o (initFr l) H with
  | some (x, H') => match putLK l o.dst x with
   | some l' => (if decide (fl = .s) && !readerOp o.op then changedK N H H' else []) ++ wOfK T N r l' H'
   | none => []
  | none => []
def runWK (T : Tab) (W : List Nat) (N : Nat) : List (LOper × Fl) → List AVal → Heap → Option (List AVal × Heap)
 | [], l, H => some (l, H)
 | (o, fl) :: r, l, H => match evalC T o (initFr l) H with
  | some (x, H') => if (decide (fl = .f) || decide (fl = .s) && sideBK W N o (initFr l) H H') = true then (match putLK l o.dst x with | some l' => runWK T W N r l' H' | none => none) else none
  | none => none
theorem runW_okK {T : Tab} {W : List Nat} {N : Nat} {Q : AFr → Heap → Prop} : ∀ (ops : List (LOper × Fl)) (l : List AVal) (H : Heap) (l' : List AVal) (H' : Heap), runWK T W N ops l H = some (l', H') → Q (initFr l') H' → evalW T W N Q ops (initFr l) H
 | [], l, H, l', H', h, hq => by cases h; exact hq
 | (o, fl) :: r, l, H, l', H', h, hq => by
  unfold runWK at h
  rw [evalC_eq] at h
  split at h
  case h_2 => cases h
  rename_i x H1 hx
  split at h
  case isFalse => cases h
  rename_i hs
  split at h
  case h_2 => cases h
  rename_i l1 hl
  simp only [evalW, hx]
  rw [putL_okK hl]
  refine ⟨?_, runW_okK r l1 H1 l' H' h hq⟩
  simp only [Bool.or_eq_true, Bool.and_eq_true, decide_eq_true_eq] at hs
  rcases hs with rfl | ⟨rfl, hs⟩
  ·exact trivial
  ·exact sideB_okK hs
def iterK (f : List AVal → Heap → Option OutK) : Nat → List AVal → Heap → Option OutK
 | 0, _, _ => none
 | n + 1, l, H => match f l H with
  | some (.normal, l', H') => iterK f n l' H'
  | some (.exit j, l', H') => some (.exit j, l', H')
  | some (.ret, l', H') => some (.ret, l', H')
  | none => none
def runCK (T : Tab) (F : Nat) : LCode → List AVal → Heap → Option OutK
 | .skip, l, H => some (.normal, l, H)
 | .region ops, l, H => match runOpsK T ops l H with | some (l', H') => some (.normal, l', H') | none => none
 | .regionD ops, l, H => match runDK T ops l H with | some l' => some (.normal, l', H) | none => none
 | .regionW ops, l, H => match runWK T (wOfK T H.length ops l H) H.length ops l H with | some (l', H') => some (.normal, l', H') | none => none
 | .regionN _ _, _, _ => none
 | .seq a b, l, H => match runCK T F a l H with
  | some (.normal, l', H') => runCK T F b l' H'
  | some (.exit j, l', H') => some (.exit j, l', H')
  | some (.ret, l', H') => some (.ret, l', H')
  | none => none
 | .cond c a b, l, H => match opd (initFr l) c with
  | .p (.bool true) => runCK T F a l H
  | .p (.bool false) => runCK T F b l H
  | _ => none
 | .block id b, l, H => match runCK T F b l H with
  | some (.exit j, l', H') => if j = id then some (.normal, l', H') else some (.exit j, l', H')
  | some (.normal, l', H') => some (.normal, l', H')
  | some (.ret, l', H') => some (.ret, l', H')
  | none => none
 | .loop b, l, H => iterK (runCK T F b) F l H
 | .exit id, l, H => some (.exit id, l, H)
 | .ret, l, H => some (.ret, l, H)
 | .bad, _, _ => none
theorem iter_endK {f : List AVal → Heap → Option OutK} : ∀ (n : Nat) (l : List AVal) (H : Heap) (l' : List AVal) (H' : Heap), iterK f n l H ≠ some (.normal, l', H')
 | 0, _, _, _, _ => by simp [iterK]
 | n + 1, l, H, l', H' => by
  unfold iterK
  split
  ·exact iter_endK n _ _ _ _
  ·simp
  ·simp
  ·simp
noncomputable def leastK (p : Nat → Prop) : Nat := Classical.epsilon fun n => p n ∧ ∀ m, p m → n ≤ m
theorem least_specK {p : Nat → Prop} (h : ∃ n, p n) : p (leastK p) ∧ ∀ m, p m → leastK p ≤ m := by
 have : ∃ n, p n ∧ ∀ m, p m → n ≤ m := by
  obtain ⟨n, hn⟩ := h
  induction n using Nat.strongRecOn with
  | _ n ih =>
   by_cases hm : ∃ m, m < n ∧ p m
   ·obtain ⟨m, h1, h2⟩ := hm
    exact ih m h1 h2
   ·exact ⟨n, hn, fun m h2 => Nat.le_of_not_lt fun h1 => hm ⟨m, h1, h2⟩⟩
 exact Classical.epsilon_spec this
theorem runC_okK {T : Tab} {F : Nat} : ∀ (code : LCode) (l : List AVal) (H : Heap) (e : LExit) (l' : List AVal) (H' : Heap) (Q : LExit → AFr → Heap → Prop),
  runCK T F code l H = some (e, l', H') → Q e (initFr l') H' → vc T code Q (initFr l) H
 | .skip, l, H, e, l', H', Q, h, hq => by cases h; exact hq
 | .region ops, l, H, e, l', H', Q, h, hq => by
  unfold runCK at h
  split at h
  case h_2 => cases h
  rename_i l1 H1 ho
  cases h
  unfold vc
  rw [runOps_okK _ _ _ _ _ ho]
  exact hq
 | .regionD ops, l, H, e, l', H', Q, h, hq => by
  unfold runCK at h
  split at h
  case h_2 => cases h
  rename_i l1 ho
  cases h
  unfold vc
  exact runD_okK _ _ _ _ ho hq
 | .regionW ops, l, H, e, l', H', Q, h, hq => by
  unfold runCK at h
  split at h
  case h_2 => cases h
  rename_i l1 H1 ho
  cases h
  unfold vc
  exact ⟨_, runW_okK _ _ _ _ _ ho hq⟩
 | .regionN _ _, l, H, e, l', H', Q, h, hq => by simp [runCK] at h
 | .seq a b, l, H, e, l', H', Q, h, hq => by
  unfold runCK at h
  unfold vc
  split at h
  ·rename_i l1 H1 ha
   exact runC_okK a l H _ _ _ _ ha (runC_okK b l1 H1 _ _ _ _ h hq)
  ·rename_i j l1 H1 ha
   cases h
   exact runC_okK a l H _ _ _ _ ha hq
  ·rename_i l1 H1 ha
   cases h
   exact runC_okK a l H _ _ _ _ ha hq
  ·cases h
 | .cond c a b, l, H, e, l', H', Q, h, hq => by
  unfold runCK at h
  unfold vc
  split at h
  ·rename_i hc
   rw [hc]
   simp only [if_true]
   exact runC_okK a l H _ _ _ _ h hq
  ·rename_i hc
   rw [hc]
   simp only [Bool.false_eq_true, if_false]
   exact runC_okK b l H _ _ _ _ h hq
  ·cases h
 | .block id b, l, H, e, l', H', Q, h, hq => by
  unfold runCK at h
  unfold vc
  split at h
  ·rename_i j l1 H1 hb
   refine runC_okK b l H _ _ _ _ hb ?_
   unfold blockQ
   split at h
   ·rename_i hj
    cases h
    simpa [hj] using hq
   ·rename_i hj
    cases h
    simpa [hj] using hq
  ·rename_i l1 H1 hb
   cases h
   exact runC_okK b l H _ _ _ _ hb hq
  ·rename_i l1 H1 hb
   cases h
   exact runC_okK b l H _ _ _ _ hb hq
  ·cases h
 | .loop b, l, H, e, l', H', Q, h, hq => by
  have he : e ≠ .normal := by
   rintro rfl
   exact iter_endK _ _ _ _ _ h
  let p : AFr → Heap → Nat → Prop := fun fr H n => ∃ l, fr = initFr l ∧ iterK (runCK T F b) n l H = some (e, l', H')
  refine ⟨fun fr H => ∃ n, p fr H n, fun fr H => leastK (p fr H), ⟨F, l, rfl, h⟩, fun fr H hI => ?_⟩
  obtain ⟨hn, hmin⟩ := least_specK hI
  show vc T b (thenQ (fun fr' H' => (∃ n, p fr' H' n) ∧ leastK (p fr' H') < leastK (p fr H)) Q) fr H
  generalize leastK (p fr H) = n at hn hmin ⊢
  obtain ⟨l0, rfl, hit⟩ := hn
  cases n with
  | zero => simp [iterK] at hit
  | succ m =>
   unfold iterK at hit
   split at hit
   ·rename_i l1 H1 hb
    refine runC_okK b l0 H _ _ _ _ hb ⟨⟨m, l1, rfl, hit⟩, ?_⟩
    have := (least_specK (p := p (initFr l1) H1) ⟨m, l1, rfl, hit⟩).2 m ⟨l1, rfl, hit⟩
    omega
   ·rename_i j l1 H1 hb
    cases hit
    exact runC_okK b l0 H _ _ _ _ hb hq
   ·rename_i l1 H1 hb
    cases hit
    exact runC_okK b l0 H _ _ _ _ hb hq
   ·cases hit
 | .exit id, l, H, e, l', H', Q, h, hq => by cases h; exact hq
 | .ret, l, H, e, l', H', Q, h, hq => by cases h; exact hq
 | .bad, l, H, e, l', H', Q, h, hq => by cases h
def isEndK : LExit → Bool
 | .exit _ => false
 | _ => true
def padLK (n : Nat) (args : List AVal) : List AVal := args ++ List.replicate (n - args.length) (.p (.tup []))
theorem initFr_padK (n : Nat) (args : List AVal) : initFr (padLK n args) = initFr args := by
 funext i
 unfold initFr padLK
 by_cases h : i < args.length
 ·rw [List.getElem?_append_left h]
 ·rw [List.getElem?_append_right (by omega), List.getElem?_eq_none (by omega : args.length ≤ i), List.getElem?_replicate]
  split <;> rename_i x hx
  ·split at hx
   ·cases hx; rfl
   ·cases hx
  ·rfl
def runFK (T : Tab) (F : Nat) (lf : LFunc) (args : List AVal) (H : Heap) : Option (AVal × Heap) :=
 if args.length ≤ lf.n then
  match runCK T F lf.body (padLK lf.n args) H with
  | some (e, l, H') => if isEndK e = true then (match finish T lf.results (initFr l) H' with | some r => some (r, H') | none => none) else none
  | none => none
 else none
theorem runF_vcK {T : Tab} {F : Nat} {lf : LFunc} {args : List AVal} {H H' : Heap} {r : AVal} (h : runFK T F lf args H = some (r, H')) :
  args.length ≤ lf.n ∧ vc T lf.body (retQ T lf.results fun r2 H2 => r2 = r ∧ H2 = H') (initFr args) H := by
 unfold runFK at h
 split at h
 case isFalse => cases h
 rename_i hn
 refine ⟨hn, ?_⟩
 split at h
 case h_2 => cases h
 rename_i e l H1 hr
 split at h
 case isFalse => cases h
 rename_i he
 split at h
 case h_2 => cases h
 rename_i r1 hf
 cases h
 rw [← initFr_padK lf.n args]
 refine runC_okK _ _ _ _ _ _ _ hr ?_
 have fin : match finish T lf.results (initFr l) H' with | some r2 => r2 = r ∧ H' = H' | none => False := by rw [hf]; exact ⟨rfl, rfl⟩
 cases e with
 | exit j => cases he
 | normal => exact fin
 | ret => exact fin
theorem runF_someK {T : Tab} {F : Nat} {lf : LFunc} {args : List AVal} {H H' : Heap} {r : AVal} (h : runFK T F lf args H = some (r, H')) :
  ∃ e l, runCK T F lf.body (padLK lf.n args) H = some (e, l, H') ∧ isEndK e = true ∧ finish T lf.results (initFr l) H' = some r := by
 unfold runFK at h
 split at h
 case isFalse => cases h
 split at h
 case h_2 => cases h
 rename_i e l H1 hr
 split at h
 case isFalse => cases h
 rename_i he
 split at h
 case h_2 => cases h
 rename_i r1 hf
 cases h
 exact ⟨e, l, hr, he, hf⟩
def runPK (T : Tab) (F : Nat) (lf : LFunc) (args : List PVal) : Option PVal :=
 match runFK T F lf (args.map .p) [] with
 | some (r, H) => resolveV H fuel r
 | none => none
theorem pure_of_runK {gl : Nat → AVal} {T : Tab} (hm : P.follows .mixedOrders = true) (hT : TabOk P base T) (hg : GlobOk base gl) {f : FuncId} {lf : LFunc} (hl : lowFunc P gl f = some lf) (F : Nat) {s : List PVal → Option PVal}
  (h : ∀ args x, s args = some x → runPK T F lf args = some x) : FnOk P base f (pureS s) := by
 refine pure_of_vc hm hT hg hl fun args x hs _ => ?_
 have hr := h args x hs
 unfold runPK at hr
 split at hr
 case h_2 => cases hr
 rename_i r H hf
 obtain ⟨hn, hv⟩ := runF_vcK hf
 refine ⟨by simpa using hn, ?_⟩
 clear hn hv
 have eQ : endQ T lf.results x = retQ T lf.results fun r H => resolveV H fuel r = some x := by
  funext e fr H
  cases e <;> simp only [endQ, retQ, finishP] <;> (cases finish T lf.results fr H <;> simp)
 rw [eQ]
 obtain ⟨e, l, hc, he, hfin⟩ := runF_someK hf
 rw [← initFr_padK lf.n (args.map .p)]
 refine runC_okK _ _ _ _ _ _ _ hc ?_
 have fin : match finish T lf.results (initFr l) H with | some r => resolveV H fuel r = some x | none => False := by rw [hfin]; exact hr
 cases e with
 | exit j => cases he
 | normal => exact fin
 | ret => exact fin
end Go.Abs.K

/-
 ABS, part V: strings.Builder: copyCheck and String as functions that write own arrays.
-/
namespace Go.Abs
variable {P : Program} {base : Prot}
theorem RepL.one {c : Ctx} {x : AVal} {vs : List Value} (h : RepL c [x] vs) : ∃ v, vs = [v] ∧ Rep c x v := by
 obtain ⟨h1, h2⟩ := h
 match vs, h1 with
 | [v], _ => exact ⟨v, rfl, h2 0 x v rfl rfl⟩
end Go.Abs

/-
 ABS, part W: from a contract over pure values to what a row asks: arguments that read as data are pure values.
-/
namespace Go.Abs
open Go.RowKit Go.WideShapes Go.ChangeShapes Go.ChangeMaps
variable {P : Program} {base : Prot}
def allCells (W : World) : Prot := fun b o => W.cell? ⟨b, o, none⟩
theorem law_of_fn {f : FuncId} {s : List PVal → Option PVal} (h : FnOk P base f (pureS s)) {W : World} (hb : Prot.le base (allCells W)) {ps : List PVal} {vs : List Value} (hl : vs.length = ps.length)
  (hr : ∀ (j : Nat) x v, ps[j]? = some x → vs[j]? = some v → PRep (allCells W) x v) (hs : s ps = some (.bool true)) :
  Calls P f vs.toArray W fun e W' => e = .returned (.bool true) ∧ Go.RowKit.Below W.heap.size W W' := by
 have hI : Inv base ⟨[], allCells W⟩ [] W := ⟨hb, rfl, fun _ _ _ h => h, fun k e l h => by simp at h, fun k k' l l' g cp cp' h => by simp at h⟩
 refine (h.2 ps (.p (.bool true)) [] (by simp [pureS, hs]) ⟨[], allCells W⟩ W vs hI (PRep.toRep hl hr)).mono fun e w' ⟨v, c', he, st, hI', rp⟩ => ?_
 cases rp with
 | p _ _ rp =>
  cases rp
  exact ⟨he, st.os, st.tape, st.output, st.size, fun k hk => st.blk k hk (fun ⟨j, l, cap, hl, _⟩ => by simp at hl)⟩
section
variable {H : Type} {enc : TypeId × Value → H} {W : World} {sp : Nat → Bool}
end
end Go.Abs

/-
 ABS, part PG: arguments that read as data are pure values: of any type that is made of truth values, whole numbers, strings, slices and structures.
-/
namespace Go.Abs
open Go.RowKit Go.WideShapes Go.ChangeShapes Go.ChangeMaps
section
variable {H : Type} {enc : TypeId × Value → H} {P : Program} {W : World} {sp : Nat → Bool}
def isS (P : Program) (t : TypeId) : Bool := match P.underlying t with
 | some (.struct _) => true
 | some (.array _ _) => true
 | _ => false
def ofCells (s : Bool) (c : List PVal) : PVal := if s then .agg c else c.headD .nilp
def HasFs (h : TypeId → List PVal → Prop) : List TypeId → List PVal → Prop
 | [], ps => ps = []
 | f :: r, ps => ∃ a b, ps = a ++ b ∧ h f a ∧ HasFs h r b
def HasTy (P : Program) : Nat → TypeId → List PVal → Prop
 | 0, _, _ => False
 | n + 1, t, ps => match P.underlying t with
  | some .bool => ∃ b, ps = [.bool b]
  | some (.int k) => ∃ z, ps = [.int k z] ∧ k.min ≤ z ∧ z ≤ k.max
  | some .string => ∃ s, ps = [.str s]
  | some (.slice e) => ∃ l : List (List PVal), ps = [.lst (l.map (ofCells (isS P e)))] ∧ ∀ c ∈ l, HasTy P n e c
  | some (.struct fs) => HasFs (HasTy P n) (fs.toList.map (·.type)) ps
  | some (.array k e) => HasFs (HasTy P n) (List.replicate k e) ps
  | _ => False
def contig (P : Program) : Nat → Nat → List Field → Bool
 | e, o, [] => o == e
 | e, o, f :: r => f.offset == o && contig P e (o + P.cellsOf f.type) r
def plainTy (P : Program) : Nat → TypeId → Bool
 | 0, _ => false
 | n + 1, t => match P.underlying t with
  | some .bool => true
  | some (.int _) => true
  | some .string => true
  | some (.slice e) => plainTy P n e && decide (0 < P.cellsOf e)
  | some (.struct fs) => (fs.toList.all fun f => plainTy P n f.type) && contig P (P.cellsOf t) 0 fs.toList
  | some (.array k e) => plainTy P n e && (P.cellsOf t == k * P.cellsOf e)
  | _ => false
theorem ofCells_cells {n : Nat} {t : TypeId} {c : List PVal} (h : HasTy P n t c) : (ofCells (isS P t) c).cells = c := by
 cases n with
 | zero => exact h.elim
 | succ n =>
  unfold HasTy at h
  unfold isS
  split at h <;> rename_i hu <;> simp only [hu, ofCells]
  ·obtain ⟨b, rfl⟩ := h; rfl
  ·obtain ⟨b, rfl, _⟩ := h; rfl
  ·obtain ⟨b, rfl⟩ := h; rfl
  ·obtain ⟨b, rfl, _⟩ := h; rfl
  ·rfl
  ·rfl
  ·exact h.elim
theorem add_bo (a : Addr) (k : Nat) : (a.add k).block = a.block ∧ (a.add k).off = a.off + k := by
 unfold Addr.add
 by_cases h : k = 0
 ·subst h; simp
 ·simp [h]
theorem cell_bo {a : Addr} {v : Value} (h : W.cell? a = some v) : W.cell? ⟨a.block, a.off, none⟩ = some v := by
 have hs := World.cell?_spot h
 rw [← h, ← hs]
theorem cell_add {a : Addr} {k j : Nat} {v : Value} (h : W.cell? ((a.add k).add j) = some v) : W.cell? ⟨a.block, a.off + k + j, none⟩ = some v := by
 have := cell_bo h
 rw [(add_bo _ _).1, (add_bo _ _).2, (add_bo _ _).1, (add_bo _ _).2] at this
 exact this
def GoodCells (W : World) (ps : List PVal) (cs : List Value) : Prop := ps.length = cs.length ∧ (∀ (j : Nat) p v, ps[j]? = some p → cs[j]? = some v → PRep (allCells W) p v) ∧ ∀ p ∈ ps, p.isCell = true
theorem prep_fields {n fuel : Nat} (ih : ∀ t cs x, plainTy P n t = true → DataW.trod enc P W 0 sp true fuel t cs = some x → ∃ ps, HasTy P n t ps ∧ GoodCells W ps cs) (cs : List Value) :
  ∀ (fs : List Field) (o : Nat) xs, contig P cs.length o fs = true → (fs.all fun f => plainTy P n f.type) = true → (fs.mapM fun f => DataW.trod enc P W 0 sp true fuel f.type ((cs.drop f.offset).take (P.cellsOf f.type))) = some xs →
   o ≤ cs.length ∧ ∃ ps, HasFs (HasTy P n) (fs.map (·.type)) ps ∧ GoodCells W ps (cs.drop o)
 | [], o, xs, hc, _, _ => by
  simp only [contig, beq_iff_eq] at hc
  subst hc
  refine ⟨Nat.le_refl _, [], rfl, ?_, ?_, ?_⟩ <;> simp
 | f :: r, o, xs, hc, hp, hm => by
  simp only [contig, Bool.and_eq_true, beq_iff_eq] at hc
  obtain ⟨rfl, hc⟩ := hc
  simp only [List.all_cons, Bool.and_eq_true] at hp
  cases h1 : DataW.trod enc P W 0 sp true fuel f.type ((cs.drop f.offset).take (P.cellsOf f.type)) with
  | none => simp [List.mapM_cons, h1] at hm
  | some y =>
   cases h2 : (r.mapM fun f => DataW.trod enc P W 0 sp true fuel f.type ((cs.drop f.offset).take (P.cellsOf f.type))) with
   | none => simp [List.mapM_cons, h1, h2] at hm
   | some ys =>
    obtain ⟨hle, qs, hq, hql, hqr, hqc⟩ := prep_fields ih cs r _ ys hc hp.2 h2
    obtain ⟨ps, hps, hpl, hpr, hpc⟩ := ih _ _ _ hp.1 h1
    have hlen : ps.length = P.cellsOf f.type := by rw [hpl]; simp; omega
    refine ⟨by omega, ps ++ qs, ⟨ps, qs, rfl, hps, hq⟩, ?_, ?_, ?_⟩
    ·simp only [List.length_append, hql, hlen, List.length_drop]; omega
    ·intro j p v hj hv
     by_cases hlt : j < ps.length
     ·rw [List.getElem?_append_left hlt] at hj
      refine hpr j p v hj ?_
      rw [List.getElem?_take, if_pos (by omega)]
      exact hv
     ·rw [List.getElem?_append_right (by omega)] at hj
      refine hqr (j - ps.length) p v hj ?_
      rw [List.getElem?_drop] at hv ⊢
      rw [← hv]; congr 1; omega
    ·intro p hp'
     rcases List.mem_append.1 hp' with h | h
     ·exact hpc p h
     ·exact hqc p h
def asFs (P : Program) (e : TypeId) (k i : Nat) : List Field := (List.range' i k).map fun j => ⟨ "", e, j * P.cellsOf e, false, "", "", 0⟩
theorem asFs_contig (e : TypeId) : ∀ (k i : Nat), contig P ((i + k) * P.cellsOf e) (i * P.cellsOf e) (asFs P e k i) = true
 | 0, i => by simp [asFs, contig]
 | k + 1, i => by
  have h := asFs_contig e k (i + 1)
  have e1 : i + 1 + k = i + (k + 1) := by omega
  have e2 : (i + 1) * P.cellsOf e = i * P.cellsOf e + P.cellsOf e := Nat.succ_mul _ _
  rw [e1, e2] at h
  have e3 : asFs P e (k + 1) i = ⟨ "", e, i * P.cellsOf e, false, "", "", 0⟩ :: asFs P e k (i + 1) := by simp [asFs, List.range'_succ]
  rw [e3]
  simp only [contig, beq_self_eq_true, Bool.true_and]
  exact h
theorem asFs_types (e : TypeId) (k i : Nat) : (asFs P e k i).map (·.type) = List.replicate k e := by
 unfold asFs
 rw [List.map_map]
 apply List.ext_getElem?
 intro j
 by_cases h : j < k
 ·simp [h]
 ·simp [h]
theorem asFs_mapM {α : Type} (e : TypeId) (r : TypeId → Nat → Option α) : ∀ (k i : Nat), ((asFs P e k i).mapM fun f => r f.type f.offset) = (List.range' i k).mapM fun j => r e (j * P.cellsOf e)
 | 0, i => rfl
 | k + 1, i => by
  have e3 : asFs P e (k + 1) i = ⟨ "", e, i * P.cellsOf e, false, "", "", 0⟩ :: asFs P e k (i + 1) := by simp [asFs, List.range'_succ]
  rw [e3, List.range'_succ, List.mapM_cons, List.mapM_cons, asFs_mapM e r k (i + 1)]
theorem prep_cells : ∀ (n : Nat) (fuel : Nat) (t : TypeId) (cs : List Value) x, plainTy P n t = true → DataW.trod enc P W 0 sp true fuel t cs = some x → ∃ ps, HasTy P n t ps ∧ GoodCells W ps cs
 | 0, _, _, _, _, h, _ => by simp [plainTy] at h
 | n + 1, 0, _, _, _, _, h => by simp [DataW.trod] at h
 | n + 1, fuel + 1, t, cs, x, hp, h => by
  have one : ∀ (p : PVal) (v : Value), PRep (allCells W) p v → p.isCell = true → GoodCells W [p] [v] := fun p v h1 h2 => by
   refine ⟨rfl, fun j q w hq hw => ?_, fun q hq => ?_⟩
   ·cases j with
    | zero => simp at hq hw; subst hq; subst hw; exact h1
    | succ j => simp at hq
   ·simp at hq; subst hq; exact h2
  unfold plainTy at hp
  split at hp <;> rename_i hu
  ·obtain ⟨b, rfl, _⟩ := DataW.trod_bool hu h
   refine ⟨[.bool b], ?_, one _ _ (.bool b) rfl⟩
   unfold HasTy; rw [hu]; exact ⟨b, rfl⟩
  ·rename_i k
   unfold DataW.trod at h
   rw [hu] at h
   split at h <;> simp_all
   rename_i k' z hk
   subst hk
   obtain ⟨⟨rfl, hw⟩, _⟩ := h
   refine ⟨[.int _ z], ?_, one _ _ (.int _ z) rfl⟩
   unfold HasTy; rw [hu]
   simp only [Lit.wf, Bool.and_eq_true, decide_eq_true_eq] at hw
   exact ⟨z, rfl, hw⟩
  ·unfold DataW.trod at h
   rw [hu] at h
   split at h <;> simp_all
   rename_i s
   refine ⟨[.str s.data.toList], ?_, one _ _ ?_ rfl⟩
   ·unfold HasTy; rw [hu]; exact ⟨_, rfl⟩
   ·have e : (Value.string s) = .string ⟨s.data.toList.toArray⟩ := by cases s; simp
    rw [e]
    exact .str _ (by rw [Array.length_toList]; exact h.1)
  ·rename_i e
   simp only [Bool.and_eq_true, decide_eq_true_eq] at hp
   obtain ⟨hpe, hpos⟩ := hp
   rcases DataW.trod_slice hu h with ⟨rfl, _⟩ | ⟨a, len, cap, elems, rest, n', hfu, rfl, _, _, hlc, hcm, hl, hel, _, _⟩
   ·refine ⟨[.lst []], ?_, one _ _ (.lst [] none 0 0 1 0 0 (fun _ _ => undef) rfl (Nat.le_refl _) (Nat.zero_le _) (by simp) (by simp) (by simp) (by simp) (by simp)) rfl⟩
    unfold HasTy; rw [hu]; exact ⟨[], rfl, by simp⟩
   ·have each : ∀ i, ∃ c : List PVal, i < len → HasTy P n e c ∧ ∃ vs : List Value, vs.length = P.cellsOf e ∧ (∀ j, j < P.cellsOf e → W.cell? ((a.add (i * P.cellsOf e)).add j) = vs[j]?) ∧ GoodCells W c vs := fun i => by
     by_cases hi : i < len
     ·have := hel i hi
      rw [List.getElem?_eq_getElem (by omega)] at this
      obtain ⟨vs, hvs, ht⟩ := Option.bind_eq_some_iff.1 this
      obtain ⟨_, h1, h2⟩ := World.cells?_some hvs
      obtain ⟨c, hc, hg⟩ := prep_cells n n' e vs _ hpe ht
      exact ⟨c, fun _ => ⟨hc, vs, h1, h2, hg⟩⟩
     ·exact ⟨[], fun h => absurd h hi⟩
    obtain ⟨F, hF⟩ := Classical.axiomOfChoice each
    refine ⟨[.lst (((List.range len).map F).map (ofCells (isS P e)))], ?_, one _ _ ?_ rfl⟩
    ·unfold HasTy; rw [hu]
     refine ⟨(List.range len).map F, rfl, fun c hc => ?_⟩
     obtain ⟨i, hi, rfl⟩ := List.mem_map.1 hc
     exact (hF i (List.mem_range.1 hi)).1
    ·have hcell : ∀ i j, i < len → j < P.cellsOf e → ∃ v, W.cell? ⟨a.block, a.off + i * P.cellsOf e + j, none⟩ = some v ∧ ∀ p, (F i)[j]? = some p → PRep (allCells W) p v := fun i j hi hj => by
      obtain ⟨hT, vs, hl, hc, hg1, hg2, hg3⟩ := hF i hi
      have hv : vs[j]? = some vs[j] := List.getElem?_eq_getElem (by omega)
      have := hc j hj
      rw [hv] at this
      exact ⟨vs[j], cell_add this, fun p hp => hg2 j p _ hp hv⟩
     refine .lst _ (some a) len cap (P.cellsOf e) a.block a.off (fun i j => (W.cell? ⟨a.block, a.off + i * P.cellsOf e + j, none⟩).getD undef) (by simp) hlc hcm (fun hne => ?_) (fun y hy => ?_) (fun i j hi hj => ?_) (fun i y j p hi hj => ?_) (fun y hy p hp => ?_)
     ·have h0 : 0 < len := by
       rcases Nat.eq_zero_or_pos len with h0 | h0
       ·subst h0; simp at hne
       ·exact h0
      obtain ⟨hT, vs, hl, hc, hg⟩ := hF 0 h0
      have hv : vs[0]? = some vs[0] := List.getElem?_eq_getElem (by omega)
      have := hc 0 hpos
      rw [hv, Nat.zero_mul, show (a.add 0).add 0 = a from rfl] at this
      have := World.cell?_spot this
      cases a
      simp at this
      subst this
      rfl
     ·obtain ⟨c, hc, rfl⟩ := List.mem_map.1 hy
      obtain ⟨i, hi, rfl⟩ := List.mem_map.1 hc
      obtain ⟨hT, vs, hl, hc, hg⟩ := hF i (List.mem_range.1 hi)
      rw [ofCells_cells hT, hg.1, hl]
     ·have hi' : i < len := by simpa using hi
      obtain ⟨v, hv, _⟩ := hcell i j hi' hj
      show W.cell? _ = _
      rw [hv]; rfl
     ·have hi' : i < len := by
       have := (List.getElem?_eq_some_iff.1 hi).1
       simpa using this
      have hyi : y = ofCells (isS P e) (F i) := by
       simp [hi'] at hi
       exact hi.symm
      obtain ⟨hT, vs, hl, hc, hg⟩ := hF i hi'
      rw [hyi, ofCells_cells hT] at hj
      have hj' : j < P.cellsOf e := by
       have := (List.getElem?_eq_some_iff.1 hj).1
       rw [hg.1, hl] at this
       exact this
      obtain ⟨v, hv, hr⟩ := hcell i j hi' hj'
      rw [hv]
      exact hr p hj
     ·obtain ⟨c, hc, rfl⟩ := List.mem_map.1 hy
      obtain ⟨i, hi, rfl⟩ := List.mem_map.1 hc
      obtain ⟨hT, vs, hl, hc, hg⟩ := hF i (List.mem_range.1 hi)
      rw [ofCells_cells hT] at hp
      exact hg.2.2 p hp
  ·rename_i fs
   simp only [Bool.and_eq_true] at hp
   unfold DataW.trod at h
   rw [hu] at h
   have h' : (if cs.length = P.cellsOf t then (fs.toList.mapM fun f => DataW.trod enc P W 0 sp true fuel f.type ((cs.drop f.offset).take (P.cellsOf f.type))).map fun xs => (DataW.agg (xs.map (·.1)), xs.flatMap (·.2)) else none) = some x := by
    simpa using h
   clear h
   split at h'
   case isFalse => cases h'
   rename_i hl
   obtain ⟨xs, hxs, _⟩ := Option.map_eq_some_iff.1 h'
   obtain ⟨_, ps, h1, h2⟩ := prep_fields (fun t cs x => prep_cells n fuel t cs x) cs fs.toList 0 xs (by rw [hl]; exact hp.2) hp.1 hxs
   refine ⟨ps, ?_, by simpa using h2⟩
   unfold HasTy; rw [hu]; exact h1
  ·rename_i k e
   simp only [Bool.and_eq_true, beq_iff_eq] at hp
   obtain ⟨hpe, hsz⟩ := hp
   unfold DataW.trod at h
   rw [hu] at h
   have h' : (if cs.length = P.cellsOf t then ((List.range k).mapM fun i => DataW.trod enc P W 0 sp true fuel e ((cs.drop (i * P.cellsOf e)).take (P.cellsOf e))).map fun xs => (DataW.agg (xs.map (·.1)), xs.flatMap (·.2)) else none) = some x := by
    simpa using h
   clear h
   split at h'
   case isFalse => cases h'
   rename_i hl
   obtain ⟨xs, hxs, _⟩ := Option.map_eq_some_iff.1 h'
   rw [List.range_eq_range', ← asFs_mapM (P := P) e (fun t o => DataW.trod enc P W 0 sp true fuel t ((cs.drop o).take (P.cellsOf t))) k 0] at hxs
   have hc : contig P cs.length 0 (asFs P e k 0) = true := by
    have := asFs_contig (P := P) e k 0
    rw [Nat.zero_add, Nat.zero_mul] at this
    rw [hl, hsz]
    exact this
   have ha : ((asFs P e k 0).all fun f => plainTy P n f.type) = true := by
    rw [List.all_eq_true]
    intro f hf
    obtain ⟨j, -, rfl⟩ := List.mem_map.1 hf
    exact hpe
   obtain ⟨_, ps, h1, h2⟩ := prep_fields (fun t cs x => prep_cells n fuel t cs x) cs (asFs P e k 0) 0 xs hc ha hxs
   rw [asFs_types] at h1
   refine ⟨ps, ?_, by simpa using h2⟩
   unfold HasTy; rw [hu]; exact h1
  ·cases hp
theorem prep_val {n : Nat} {t : TypeId} {v : Value} {d : DataW H} {ps : List MemPlace} {r : Reach} {b0 : Nat} (hp : plainTy P n t = true) (hv : Value.okWide P W r b0 t v) (h : DataW.Trod enc P W 0 sp true t v d ps) :
  ∃ c : List PVal, HasTy P n t c ∧ PRep (allCells W) (ofCells (isS P t) c) v := by
 obtain ⟨fuel, hf⟩ := h
 obtain ⟨c, hc, g1, g2, g3⟩ := prep_cells n fuel t _ _ hp hf
 refine ⟨c, hc, ?_⟩
 cases n with
 | zero => exact hc.elim
 | succ n =>
  have one : ∀ p : PVal, c = [p] → v.cells.toList = [v] → PRep (allCells W) p v := fun p e1 e2 => by
   subst e1
   exact g2 0 p v rfl (by rw [e2]; rfl)
  unfold HasTy at hc
  unfold isS
  split at hc <;> rename_i hu <;> simp only [hu, ofCells]
  ·obtain ⟨b, rfl⟩ := hc
   obtain ⟨x, rfl⟩ := okWide_bool hu hv
   exact one _ rfl rfl
  ·obtain ⟨b, rfl, _⟩ := hc
   obtain ⟨x, rfl⟩ := okWide_int hu hv
   exact one _ rfl rfl
  ·obtain ⟨b, rfl⟩ := hc
   obtain ⟨x, rfl⟩ := okWide_string hu hv
   exact one _ rfl rfl
  ·obtain ⟨b, rfl, _⟩ := hc
   obtain ⟨x, y, z, rfl⟩ := okWide_slice hu hv
   exact one _ rfl rfl
  ·obtain ⟨cs, rfl, hsz⟩ := okWide_struct hu hv
   have e : Value.agg cs = .agg cs.toList.toArray := by simp
   rw [e]
   refine .agg c cs.toList (by rw [g1]; rfl) (fun j p v h1 h2 => g2 j p v h1 h2) g3
  ·simp only [Value.okWide, hu] at hv
   obtain ⟨cs, rfl, -⟩ := hv
   have e : Value.agg cs = .agg cs.toList.toArray := by simp
   rw [e]
   refine .agg c cs.toList (by rw [g1]; rfl) (fun j p v h1 h2 => g2 j p v h1 h2) g3
  ·exact hc.elim
end
end Go.Abs
