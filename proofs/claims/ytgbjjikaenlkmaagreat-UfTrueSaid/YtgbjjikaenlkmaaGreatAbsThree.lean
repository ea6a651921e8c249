/-
  A library of the prover's own, part 3: contracts, rewriting rules, calls carried out, strings.Builder, and what a row asks. A library of the prover's own, part 4: a range over a function. No conditions beyond the lemmas' own hypotheses.
-/
import Derived.Test.YtgbjjikaenlkmaaGreatAbsTwo
import Derived.Carry
import Derived.ChangeSlices
import Derived.WideShapes
import Derived.RowKit
import Derived.ChangeMaps5
import Derived.DataReads
import Derived.SliceStrings
import Derived.ChangeSame
import Derived.RangeFuncNested
import Derived.RangeFuncBound
import Derived.RangeFuncCalls
import Derived.RangeFuncLeaves
import Derived.TacticsIn
import Derived.RangeFuncWrites
import Derived.RangeFuncBox
set_option linter.unusedSimpArgs false
set_option linter.unnecessarySimpa false
set_option linter.unusedVariables false
set_option linter.constructorNameAsVariable false

namespace Go.Abs
section
variable {T : Tab} {Q : LExit → AFr → zb → Prop} {fr : AFr} {H : zb}
def seqQ (T : Tab) (b : LCode) (Q : LExit → AFr → zb → Prop) (e : LExit) (fr : AFr) (H : zb) : Prop := eB (fun fr' H' => vc T b Q fr' H') Q e fr H
def uY (r : Option (AVal × zb)) (k : AVal → zb → Prop) : Prop := match r with
 | some (x, H) => k x H
 | none => False
def goL (T : Tab) : List LOper → (LExit → AFr → zb → Prop) → AFr → zb → Prop
 | [], Q, fr, H => Q .normal fr H
 | o :: r, Q, fr, H => uY (zK T o fr H) fun x H' => goL T r Q (put fr o.dst x) H'
def goD (T : Tab) : List LOper → (LExit → AFr → zb → Prop) → AFr → zb → Prop
 | [], Q, fr, H => Q .normal fr H
 | o :: r, Q, fr, H => uY (zK T o fr H) fun x H' => H' = H ∧ goD T r Q (put fr o.dst x) H
theorem goL_eq : ∀ (ops : List LOper) (fr : AFr) (H : zb), goL T ops Q fr H = match ce T ops fr H with | some (fr', H') => Q .normal fr' H' | none => False
 | [], fr, H => rfl
 | o :: r, fr, H => by
  simp only [goL, ce, uY]
  cases zK T o fr H with
  | none => rfl
  | some p => exact goL_eq r _ _
theorem goD_eq : ∀ (ops : List LOper) (fr : AFr) (H : zb), goD T ops Q fr H = pi T H (fun fr' => Q .normal fr' H) ops fr
 | [], fr, H => rfl
 | o :: r, fr, H => by
  simp only [goD, pi, uY]
  cases zK T o fr H with
  | none => rfl
  | some p => simp only [goD_eq r]
theorem vc_skip : vc T .skip Q fr H = Q .normal fr H := (rfl)
theorem vc_region {ops} : vc T (.region ops) Q fr H = goL T ops Q fr H := by rw [goL_eq]; rfl
def goW (T : Tab) (W : List Nat) (N : Nat) : List (LOper × Fl) → (LExit → AFr → zb → Prop) → AFr → zb → Prop
 | [], Q, fr, H => Q .normal fr H
 | (o, fl) :: r, Q, fr, H => uY (zK T o fr H) fun x H' => wM T W N fl o fr H x H' ∧ goW T W N r Q (put fr o.dst x) H'
theorem goW_eq {W : List Nat} {N : Nat} : ∀ (ops : List (LOper × Fl)) (fr : AFr) (H : zb), goW T W N ops Q fr H = evalW T W N (fun fr' H' => Q .normal fr' H') ops fr H
 | [], _, _ => rfl
 | (o, fl) :: r, fr, H => by
  simp only [goW, evalW, uY]
  cases zK T o fr H with
  | none => rfl
  | some p => simp only [goW_eq r]
theorem zu {ops} : vc T (.regionW ops) Q fr H = ∃ W : List Nat, goW T W H.length ops Q fr H := by simp only [goW_eq]; rfl
theorem goW_nil {W N} : goW T W N [] Q fr H = Q .normal fr H := (rfl)
def bR (T : Tab) (W : List Nat) (N : Nat) (p : Option (AVal × zb)) (fl : Fl) (o : LOper) (H : zb) (r : List (LOper × Fl)) (Q : LExit → AFr → zb → Prop) (fr : AFr) : Prop := match p with
 | some (x, H') => wM T W N fl o fr H x H' ∧ goW T W N r Q (put fr o.dst x) H'
 | none => False
theorem nextW_free {W N o r x H'} : bR T W N (some (x, H')) .f o H r Q fr = goW T W N r Q (put fr o.dst x) H' := by simp [bR, wM]
theorem nextW_flag {W N o r x H'} : bR T W N (some (x, H')) .s o H r Q fr = (qD W N o fr H H' ∧ goW T W N r Q (put fr o.dst x) H') := by simp [bR, wM]
theorem fU {W N o r x H'} : bR T W N (some (x, H')) .t o H r Q fr = ((∀ G, zK T o fr G = some (x, G)) ∧ goW T W N r Q (put fr o.dst x) H') := by simp [bR, wM]
theorem nextW_none {W N fl o r} : bR T W N none fl o H r Q fr = False := (rfl)
theorem goW_cons {W N o fl r} : goW T W N ((o, fl) :: r) Q fr H = bR T W N (zK T o fr H) fl o H r Q fr := by simp only [goW, uY, bR]
def goN (T : Tab) (W : List Nat) (N : Nat) : List (LOper × Fl) → (LExit → AFr → zb → Prop) → AFr → zb → Prop
 | [], Q, fr, H => Q .normal fr H
 | (o, fl) :: r, Q, fr, H => uY (jd T N fl o fr H) fun x H' => wM T W N fl o fr H x H' ∧ goN T W N r Q (put fr o.dst x) H'
theorem goN_eq {W : List Nat} {N : Nat} : ∀ (ops : List (LOper × Fl)) (fr : AFr) (H : zb), goN T W N ops Q fr H = pg T W N (fun fr' H' => Q .normal fr' H') ops fr H
 | [], _, _ => rfl
 | (o, fl) :: r, fr, H => by
  simp only [goN, pg, uY]
  cases jd T N fl o fr H with
  | none => rfl
  | some p => simp only [goN_eq r]
theorem jk {R ops} : vc T (.regionN R ops) Q fr H = ∃ W : List Nat, goN T W H.length ops Q fr (H ++ List.replicate R kept) := by simp only [goN_eq]; rfl
theorem goN_nil {W N} : goN T W N [] Q fr H = Q .normal fr H := (rfl)
def kE (T : Tab) (W : List Nat) (N : Nat) (p : Option (AVal × zb)) (fl : Fl) (o : LOper) (H : zb) (r : List (LOper × Fl)) (Q : LExit → AFr → zb → Prop) (fr : AFr) : Prop := match p with
 | some (x, H') => wM T W N fl o fr H x H' ∧ goN T W N r Q (put fr o.dst x) H'
 | none => False
theorem nextN_free {W N o r x H'} : kE T W N (some (x, H')) .f o H r Q fr = goN T W N r Q (put fr o.dst x) H' := by simp [kE, wM]
theorem nextN_flag {W N o r x H'} : kE T W N (some (x, H')) .s o H r Q fr = (qD W N o fr H H' ∧ goN T W N r Q (put fr o.dst x) H') := by simp [kE, wM]
theorem fV {W N o r x H'} : kE T W N (some (x, H')) .t o H r Q fr = ((∀ G, zK T o fr G = some (x, G)) ∧ goN T W N r Q (put fr o.dst x) H') := by simp [kE, wM]
theorem nextN_kept {W N o r x H' R} : kE T W N (some (x, H')) (.c R) o H r Q fr = (((N + R ≤ H.length ∧ N + R ≤ H'.length) ∧ qD W N o fr H H' ∧ ∀ M : zb, M.length = R → zK T o fr (jt N R H M) = some (x, jt N R H' M)) ∧ goN T W N r Q (put fr o.dst x) H') := by simp [kE, wM]
theorem nextN_app {W N o r x H' rs} : kE T W N (some (x, H')) (.a rs) o H r Q fr = ((qD W N o fr H H' ∧ ∀ r ∈ rs, N + r < H.length ∧ N + r ∉ jv fr o.op) ∧ goN T W N r Q (put fr o.dst x) H') := by simp [kE, wM]
theorem nextN_new {W N o r x H' k} : kE T W N (some (x, H')) (.n k) o H r Q fr = goN T W N r Q (put fr o.dst x) H' := by simp [kE, wM]
theorem nextN_none {W N fl o r} : kE T W N none fl o H r Q fr = False := (rfl)
theorem goN_cons {W N o fl r} : goN T W N ((o, fl) :: r) Q fr H = kE T W N (jd T N fl o fr H) fl o H r Q fr := by simp only [goN, uY, kE]
theorem evalX_f {N o} : jd T N .f o fr H = zK T o fr H := (rfl)
theorem evalX_s {N o} : jd T N .s o fr H = zK T o fr H := (rfl)
theorem evalX_t {N o} : jd T N .t o fr H = zK T o fr H := (rfl)
theorem evalX_c {N o R} : jd T N (.c R) o fr H = zK T o fr H := (rfl)
theorem evalX_a {N o rs} : jd T N (.a rs) o fr H = zK T o fr H := (rfl)
theorem evalX_n {N r o} : jd T N (.n r) o fr H = newAt (N + r) o.op fr H := (rfl)
theorem lq {ops} : vc T (.regionD ops) Q fr H = goD T ops Q fr H := by rw [goD_eq]; rfl
theorem vc_seq {a b} : vc T (.seq a b) Q fr H = vc T a (seqQ T b Q) fr H := (rfl)
def pu (T : Tab) (x : AVal) (a b : LCode) (Q : LExit → AFr → zb → Prop) (fr : AFr) (H : zb) : Prop := match x with
 | .p (.bool t) => if t = true then vc T a Q fr H else vc T b Q fr H
 | .anyb => vc T a Q fr H ∧ vc T b Q fr H
 | _ => False
theorem vc_cond {c a b} : vc T (.cond c a b) Q fr H = pu T (opd fr c) a b Q fr H := (rfl)
theorem condK_true {a b} : pu T (.p (.bool true)) a b Q fr H = vc T a Q fr H := by simp [pu]
theorem iB {a b} : pu T (.p (.bool false)) a b Q fr H = vc T b Q fr H := by simp [pu]
theorem condK_any {a b} : pu T .anyb a b Q fr H = (vc T a Q fr H ∧ vc T b Q fr H) := (rfl)
theorem zr {id b} : vc T (.block id b) Q fr H = vc T b (kv id Q) fr H := (rfl)
theorem vc_exit {id} : vc T (.exit id) Q fr H = Q (.exit id) fr H := (rfl)
theorem vc_ret : vc T .ret Q fr H = Q .ret fr H := (rfl)
theorem vc_bad : vc T .bad Q fr H = False := (rfl)
theorem eM {b} : seqQ T b Q .normal fr H = vc T b Q fr H := (rfl)
theorem seqQ_exit {b id} : seqQ T b Q (.exit id) fr H = Q (.exit id) fr H := (rfl)
theorem seqQ_ret {b} : seqQ T b Q .ret fr H = Q .ret fr H := (rfl)
theorem tZ {id} : kv id Q .normal fr H = Q .normal fr H := (rfl)
theorem blockQ_ret {id} : kv id Q .ret fr H = Q .ret fr H := (rfl)
theorem iI {id} : kv id Q (.exit id) fr H = Q .normal fr H := by simp [kv]
theorem oL {id j} (h : j ≠ id) : kv id Q (.exit j) fr H = Q (.exit j) fr H := by simp [kv, h]
theorem goL_nil : goL T [] Q fr H = Q .normal fr H := (rfl)
def xx (T : Tab) (p : Option (AVal × zb)) (r : List LOper) (Q : LExit → AFr → zb → Prop) (fr : AFr) (d : Option Nat) : Prop := match p with
 | some (x, H') => goL T r Q (put fr d x) H'
 | none => False
theorem nextL_some {r x d} : xx T (some (x, H)) r Q fr d = goL T r Q (put fr d x) H := (rfl)
theorem nextL_none {r d} : xx T none r Q fr d = False := (rfl)
theorem goL_cons {o r} : goL T (o :: r) Q fr H = xx T (zK T o fr H) r Q fr o.dst := by simp only [goL, uY, xx]
theorem goD_nil : goD T [] Q fr H = Q .normal fr H := (rfl)
def xy (T : Tab) (p : Option (AVal × zb)) (H : zb) (r : List LOper) (Q : LExit → AFr → zb → Prop) (fr : AFr) (d : Option Nat) : Prop := match p with
 | some (x, H') => H' = H ∧ goD T r Q (put fr d x) H
 | none => False
theorem nextD_some {r x d H'} : xy T (some (x, H')) H r Q fr d = (H' = H ∧ goD T r Q (put fr d x) H) := (rfl)
theorem nextD_none {r d} : xy T none H r Q fr d = False := (rfl)
theorem goD_cons {o r} : goD T (o :: r) Q fr H = xy T (zK T o fr H) H r Q fr o.dst := by simp only [goD, uY, xy]
theorem upd_app {d v i} : upd fr d v i = if i = d then v else fr i := (rfl)
theorem put_some {d v} : put fr (some d) v = upd fr d v := (rfl)
theorem put_none {v} : put fr none v = fr := (rfl)
theorem opd_tmp {t} : opd fr (.tmp t) = fr t := (rfl)
theorem opd_cst {x} : opd fr (.cst x) = x := (rfl)
theorem evalV_free {d op} : zK T ⟨d, none, op⟩ fr H = zn T op fr H := (rfl)
def b7 (g : AVal) (want : Bool) (r : Option (AVal × zb)) (H : zb) : Option (AVal × zb) := match g with
 | .p (.bool b) => if b = want then r else some (.p (.tup []), H)
 | .p (.tup _) => some (.p (.tup []), H)
 | _ => none
theorem ii {d s want op} : zK T ⟨d, some (s, want), op⟩ fr H = b7 (fr s) want (zn T op fr H) H := (rfl)
theorem guardO_hit {b r} : b7 (.p (.bool b)) b r H = r := by simp [b7]
theorem guardO_tf {r} : b7 (.p (.bool true)) false r H = some (.p (.tup []), H) := (rfl)
theorem guardO_ft {r} : b7 (.p (.bool false)) true r H = some (.p (.tup []), H) := (rfl)
theorem guardO_tup {l want r} : b7 (.p (.tup l)) want r H = some (.p (.tup []), H) := (rfl)
def dH (I : AFr → zb → Prop) (μ : AFr → zb → Nat) (m : Nat) (Q : LExit → AFr → zb → Prop) (e : LExit) (fr : AFr) (H : zb) : Prop := eB (fun fr' H' => I fr' H' ∧ μ fr' H' < m) Q e fr H
theorem tR {I μ m} : dH I μ m Q .normal fr H = (I fr H ∧ μ fr H < m) := (rfl)
theorem ak {I μ m id} : dH I μ m Q (.exit id) fr H = Q (.exit id) fr H := (rfl)
theorem lY {I μ m} : dH I μ m Q .ret fr H = Q .ret fr H := (rfl)
theorem zo {b : LCode} (I : AFr → zb → Prop) (μ : AFr → zb → Nat) (h0 : I fr H) (h : ∀ fr H, I fr H → vc T b (dH I μ (μ fr H) Q) fr H) : vc T (.loop b) Q fr H := ⟨I, μ, h0, h⟩
theorem vc_congr {c} {fr fr' : AFr} {H H' : zb} (h1 : fr = fr') (h2 : H = H') : vc T c Q fr H = vc T c Q fr' H' := by rw [h1, h2]
theorem lH {b e} {fr fr' : AFr} {H H' : zb} (h1 : fr = fr') (h2 : H = H') : seqQ T b Q e fr H = seqQ T b Q e fr' H' := by rw [h1, h2]
theorem oM {id e} {fr fr' : AFr} {H H' : zb} (h1 : fr = fr') (h2 : H = H') : kv id Q e fr H = kv id Q e fr' H' := by rw [h1, h2]
theorem iJ {r r' k} (h : r = r') : uY r k = uY r' k := by rw [h]
theorem goL_congr {ops} {fr fr' : AFr} {H H' : zb} (h1 : fr = fr') (h2 : H = H') : goL T ops Q fr H = goL T ops Q fr' H' := by rw [h1, h2]
theorem goD_congr {ops} {fr fr' : AFr} {H H' : zb} (h1 : fr = fr') (h2 : H = H') : goD T ops Q fr H = goD T ops Q fr' H' := by rw [h1, h2]
theorem iC {x x' a b} {fr fr' : AFr} {H H' : zb} (h : x = x') (h1 : fr = fr') (h2 : H = H') : pu T x a b Q fr H = pu T x' a b Q fr' H' := by rw [h, h1, h2]
theorem fI {I μ m e} {fr fr' : AFr} {H H' : zb} (h1 : fr = fr') (h2 : H = H') : dH I μ m Q e fr H = dH I μ m Q e fr' H' := by rw [h1, h2]
theorem om {g g' want r} (h : g = g') : b7 g want r H = b7 g' want r H := by rw [h]
def callP (T : Tab) (f : FuncId) (args : List AVal) (H : zb) : Option (AVal × zb) := match zP (zj H fuel) args with
 | some ps => match T.fn f ps with
  | some (r, E) => some (zk H.length r, freezeL H (args.flatMap (zi H fuel)) ++ E.map (wH H.length))
  | none => none
 | none => none
def iG (p : Option (AVal × zb)) (T : Tab) (f : FuncId) (args : List AVal) (H : zb) : Option (AVal × zb) := match p with
 | some r => some r
 | none => callP T f args H
theorem callF_eq {f args} : mg T f args H = iG (T.mu f args H) T f args H := (rfl)
theorem callK_some {p f args} : iG (some p) T f args H = some p := (rfl)
theorem callK_none {f args} : iG none T f args H = callP T f args H := (rfl)
theorem aK {p p' r d} {fr fr' : AFr} (h : p = p') (h1 : fr = fr') : xx T p r Q fr d = xx T p' r Q fr' d := by rw [h, h1]
theorem aL {p p' r d} {fr fr' : AFr} {H H' : zb} (h : p = p') (h1 : fr = fr') (h2 : H = H') : xy T p H r Q fr d = xy T p' H' r Q fr' d := by rw [h, h1, h2]
theorem aI {p p' W N fl o r} {fr fr' : AFr} {H H' : zb} (h : p = p') (h1 : fr = fr') (h2 : H = H') : bR T W N p fl o H r Q fr = bR T W N p' fl o H' r Q fr' := by rw [h, h1, h2]
theorem goN_congr {W N ops} {fr fr' : AFr} {H H' : zb} (h1 : fr = fr') (h2 : H = H') : goN T W N ops Q fr H = goN T W N ops Q fr' H' := by rw [h1, h2]
theorem aJ {p p' W N fl o r} {fr fr' : AFr} {H H' : zb} (h : p = p') (h1 : fr = fr') (h2 : H = H') : kE T W N p fl o H r Q fr = kE T W N p' fl o H' r Q fr' := by rw [h, h1, h2]
theorem iF {p p' f args} (h : p = p') : iG p T f args H = iG p' T f args H := by rw [h]
theorem goW_congr {W N ops} {fr fr' : AFr} {H H' : zb} (h1 : fr = fr') (h2 : H = H') : goW T W N ops Q fr H = goW T W N ops Q fr' H' := by rw [h1, h2]
end
attribute [congr] goN_congr aJ goW_congr aK aL aI iF
attribute [simp] nextN_app evalX_a jv goN_nil goN_cons nextN_free nextN_flag fV nextN_new nextN_kept nextN_none evalX_c jt evalX_f evalX_s evalX_t evalX_n newAt kept goW_nil goW_cons nextW_free nextW_flag fU nextW_none nextL_some nextL_none nextD_some nextD_none callF_eq callK_some callK_none callP qD z9 jM idxOf
attribute [congr] vc_congr lH oM iJ goL_congr goD_congr iC fI om
attribute [simp] vc_skip vc_region lq vc_seq vc_cond condK_true iB condK_any zr vc_exit vc_ret vc_bad eM seqQ_exit seqQ_ret tZ blockQ_ret iI oL goL_nil goL_cons goD_nil goD_cons
 upd_app put_some put_none opd_tmp opd_cst evalV_free ii guardO_hit guardO_tf guardO_ft guardO_tup tR ak lY
 zn binV isShift binI unV zP zj qT finish gY oH zV qZ yU uE jX jO vj putCells j3 dj PVal.cells AVal.cells PVal.isCell AVal.isCell AVal.isAgg qA qC
end Go.Abs

namespace Go.Abs
variable {P : Program} {base : Prot}
inductive Below (n : Nat) : AVal → Prop
 | junk : Below n .junk
 | anyb : Below n .anyb
 | p (x) : Below n (.p x)
 | tight (es) : Below n (.tight es)
 | own (k off len ver) (h : k < n) : Below n (.own k off len ver)
 | optr (k ver i off) (h : k < n) : Below n (.optr k ver i off)
 | omap (k ver) (h : k < n) : Below n (.omap k ver)
 | nilm : Below n .nilm
 | agg (l : List AVal) (h : ∀ x ∈ l, Below n x) : Below n (.agg l)
 | tup (l : List AVal) (h : ∀ x ∈ l, Below n x) : Below n (.tup l)
 | clo (f) (l : List AVal) (h : ∀ x ∈ l, Below n x) : Below n (.clo f l)
theorem Rep.under {c : Ctx} {x : AVal} {v : Value} (r : Rep c x v) : Below c.locs.length x := by
 induction r with
 | junk => exact .junk
 | anyb => exact .anyb
 | p => exact .p _
 | tight => exact .tight _
 | own k off len ver l v hl => exact .own _ _ _ _ (List.getElem?_eq_some_iff.1 hl).1
 | optr k ver i off l v hl => exact .optr _ _ _ _ (List.getElem?_eq_some_iff.1 hl).1
 | nilm => exact .nilm
 | omap k ver l v hl => exact .omap _ _ (List.getElem?_eq_some_iff.1 hl).1
 | agg cells vs hl hr hk ih =>
  refine .agg _ fun x hx => ?_
  obtain ⟨j, hj, rfl⟩ := List.getElem_of_mem hx
  exact ih j _ (vs[j]'(by omega)) (by simp) (by simp [hl, hj])
 | tup l vs hl hr ih =>
  refine .tup _ fun x hx => ?_
  obtain ⟨j, hj, rfl⟩ := List.getElem_of_mem hx
  exact ih j _ (vs[j]'(by omega)) (by simp) (by simp [hl, hj])
 | clo f l vs hl hr ih =>
  refine .clo _ _ fun x hx => ?_
  obtain ⟨j, hj, rfl⟩ := List.getElem_of_mem hx
  exact ih j _ (vs[j]'(by omega)) (by simp) (by simp [hl, hj])
theorem Rep.drop {c : Ctx} {x : AVal} {v : Value} (r : Rep c x v) (n : Nat) (h : Below n x) : Rep ⟨c.locs.take n, c.prot⟩ x v := by
 induction r with
 | junk v => exact .junk v
 | anyb b => exact .anyb b
 | p x v hr => exact .p x v hr
 | tight es a m hn hr hz => exact .tight es a m hn hr hz
 | own k off len ver l v hl hv hh ho =>
  cases h with | own _ _ _ _ h => exact .own k off len ver l v (by simp [h, hl]) hv hh ho
 | optr k ver i off l v hl hv hh ho =>
  cases h with | optr _ _ _ _ h => exact .optr k ver i off l v (by simp [h, hl]) hv hh ho
 | nilm => exact .nilm
 | omap k ver l v hl hv hh ho =>
  cases h with | omap _ _ h => exact .omap k ver l v (by simp [h, hl]) hv hh ho
 | agg cells vs hl hr hk ih =>
  cases h with | agg _ h => exact .agg cells vs hl (fun j x v h1 h2 => ih j x v h1 h2 (h x (List.mem_of_getElem? h1))) hk
 | tup l vs hl hr ih =>
  cases h with | tup _ h => exact .tup l vs hl (fun j x v h1 h2 => ih j x v h1 h2 (h x (List.mem_of_getElem? h1)))
 | clo f l vs hl hr ih =>
  cases h with | clo _ _ h => exact .clo f l vs hl (fun j x v h1 h2 => ih j x v h1 h2 (h x (List.mem_of_getElem? h1)))
def yb (n : Nat) (H : zb) : Prop := ∀ e ∈ H, ∀ x ∈ e.elems, ∀ y ∈ x.cells, Below n y
theorem Inv.belowH {c : Ctx} {H : zb} {w : World} (hI : Inv base c H w) : yb H.length H := by
 intro e he x hx y hy
 obtain ⟨k, hk, rfl⟩ := List.getElem_of_mem he
 obtain ⟨l, hl, ok⟩ := hI.loc (k := k) (e := H[k]) (by simp)
 obtain ⟨i, hi, rfl⟩ := List.getElem_of_mem hx
 rw [← hI.len]
 cases hp : l.place with
 | none => have := ok.nowhere hp; simp [this] at hi
 | some q =>
  cases hm : l.mp with
  | true =>
   obtain ⟨es, ck, _, _, a3⟩ := ok.mapped q.1 q.2 hp hm
   obtain ⟨me, n, z, _, _, e, _⟩ := a3 i _ (List.getElem?_eq_getElem hi)
   rw [e] at hy
   simp only [AVal.cells, List.mem_map] at hy
   obtain ⟨u, _, rfl⟩ := hy
   exact .p _
  | false =>
   obtain ⟨j, hj, rfl⟩ := List.getElem_of_mem hy
   obtain ⟨cur, ty, _, _, _, _, a5, _⟩ := ok.there q.1 q.2 hp hm
   obtain ⟨v, _, r⟩ := a5 i _ j _ (by simp [hi]) (List.getElem?_eq_getElem hj)
   exact r.under
theorem Inv.dropTail {c : Ctx} {H E : zb} {w : World} (hI : Inv base c (H ++ E) w) (h : yb H.length H) : Inv base ⟨c.locs.take H.length, c.prot⟩ H w := by
 have get : ∀ {k : Nat} {l : Loc}, (c.locs.take H.length)[k]? = some l → c.locs[k]? = some l ∧ k < H.length := fun {k l} h => by
  rw [List.getElem?_take] at h
  split at h
  ·exact ⟨h, by assumption⟩
  ·cases h
 refine ⟨hI.base, by simp [hI.len], hI.prot, fun k e l h1 h2 => ?_, fun k k' l l' g cp cp' h1 h2 => hI.inj k k' l l' g cp cp' (get h1).1 (get h2).1⟩
 obtain ⟨h2', hk⟩ := get h2
 have ok := hI.ent k e l (by rw [List.getElem?_append_left hk]; exact h1) h2'
 refine ⟨ok.ver, ok.size, ok.pos, ok.cells, ok.nowhere, ok.typed, fun g cap hp hm => ok.mapped g cap hp hm, fun g cap hp hm => ?_⟩
 obtain ⟨cur, ty, a1, a2, a3, a4, a5, a6⟩ := ok.there g cap hp hm
 exact ⟨cur, ty, a1, a2, a3, a4, fun i x j y hx hy => let ⟨v, r1, r2⟩ := a5 i x j y hx hy; ⟨v, r1, r2.drop _ (h e (List.mem_of_getElem? h1) x (List.mem_of_getElem? hx) y (List.mem_of_getElem? hy))⟩, a6⟩
def yS (T : Tab) (rs : List LRes) (r : AVal) (H' : zb) : LExit → AFr → zb → Prop
 | .exit _, _, _ => False
 | _, fr, H => finish T rs fr H = some r ∧ ∃ E, H = H' ++ E
theorem wC {gl : Nat → AVal} {T : Tab} (hm : P.follows .mixedOrders = true) (hT : TabOk P base T) (hg : qK base gl) {f : FuncId} {lf : LFunc} (hl : zf P gl f = some lf) {m : List AVal → zb → Option (AVal × zb)}
  (h : ∀ args H r H', m args H = some (r, H') → (∀ x ∈ args, ∀ y, x = .p y → Fits y) → yb H.length H → args.length ≤ lf.n ∧ H'.length = H.length ∧ yb H.length H' ∧ Below H.length r ∧ vc T lf.body (yS T lf.results r H') (zV args) H) : bq P base f m := by
 refine ⟨qB hl, fun args H r H' hs c w vs hI hr => ?_⟩
 have hfit : ∀ x ∈ args, ∀ y, x = .p y → Fits y := fun x hx y hy => by
  subst hy
  obtain ⟨j, hj, hxj⟩ := List.getElem_of_mem hx
  have hlen := hr.1
  have := hr.2 j (.p y) (vs[j]'(by omega)) (by rw [List.getElem?_eq_getElem hj, hxj]) (by simp [hlen, hj])
  cases this with
  | p _ _ hp => exact ⟨_, _, hp⟩
 obtain ⟨hn, hlen, hb, hbr, hv⟩ := h args H r H' hs hfit hI.belowH
 have eQ : yS T lf.results r H' = jI T lf.results fun r2 H2 => r2 = r ∧ ∃ E, H2 = H' ++ E := by
  funext e fr H2
  cases e <;> simp only [yS, jI] <;> (cases finish T lf.results fr H2 <;> simp)
 rw [eQ] at hv
 refine (vO hm hT hg hl hn hI hr (fun _ => hv)).mono fun e w' ⟨v, r2, H2, c', he, hq, st, i', rp⟩ => ?_
 obtain ⟨rfl, E, rfl⟩ := hq
 rw [← hlen] at hb hbr
 refine ⟨v, ⟨c'.locs.take H'.length, c'.prot⟩, he, ⟨st.prot, fun k l hl => ?_, st.os, st.tape, st.output, st.size, st.blk, fun b hb => ?_, st.newprot⟩, i'.dropTail hb, rp.drop _ hbr⟩
 ·obtain ⟨l', h1, h2, h3⟩ := st.locs k l hl
  have hk : k < H'.length := by rw [hlen, ← hI.len]; exact (List.getElem?_eq_some_iff.1 hl).1
  exact ⟨l', by simp [hk, h1], h2, h3⟩
 ·obtain ⟨k, l, cap, h1, h2⟩ := hb
  rw [List.getElem?_take] at h1
  split at h1
  ·exact st.newloc b ⟨k, l, cap, h1, h2⟩
  ·cases h1
def m8 (T : Tab) (rs : List LRes) (size : Nat) (ty : TypeId) (es : List PVal) : LExit → AFr → zb → Prop
 | .exit _, _, _ => False
 | _, fr, H => ∃ k ver e, finish T rs fr H = some (.own k 0 es.length ver) ∧ H[k]? = some e ∧ e.ver = ver ∧ e.size = size ∧ e.ty = ty ∧ e.elems = es.map .p ∧ e.froz = false
def vK (size : Nat) (ty : TypeId) (s : List PVal → Option (List PVal)) (args : List PVal) : Option (AVal × zb) := match s args with
 | some es => some (.own 0 0 es.length 0, [⟨size, 0, false, es.map .p, ty⟩])
 | none => none
theorem b8 {gl : Nat → AVal} {T : Tab} (hm : P.follows .mixedOrders = true) (hT : TabOk P base T) (hg : qK base gl) {f : FuncId} {lf : LFunc} (hl : zf P gl f = some lf) {size : Nat} {ty : TypeId} {s : List PVal → Option (List PVal)}
  (h : ∀ args es, s args = some es → (∀ y ∈ args, Fits y) → args.length ≤ lf.n ∧ vc T lf.body (m8 T lf.results size ty es) (zV (args.map .p)) []) :
  zG P base f (vK size ty s) := by
 refine ⟨qB hl, fun args r E hs c w vs hI hr => ?_⟩
 unfold vK at hs
 cases hx : s args with
 | none => rw [hx] at hs; cases hs
 | some es =>
  rw [hx] at hs
  cases hs
  have hfit : ∀ y ∈ args, Fits y := fun y hy => by
   obtain ⟨j, hj, rfl⟩ := List.getElem_of_mem hy
   have hlen := hr.1
   simp only [List.length_map] at hlen
   have := hr.2 j (.p args[j]) (vs[j]'(by omega)) (by simp) (by simp [hlen, hj])
   cases this with
   | p _ _ hp => exact ⟨_, _, hp⟩
  have h0 : c.locs = [] := List.length_eq_zero_iff.1 (by rw [hI.len]; rfl)
  obtain ⟨hn, hv⟩ := h args es hx hfit
  have eQ : m8 T lf.results size ty es = jI T lf.results fun r H => ∃ k ver e, r = .own k 0 es.length ver ∧ H[k]? = some e ∧ e.ver = ver ∧ e.size = size ∧ e.ty = ty ∧ e.elems = es.map .p ∧ e.froz = false := by
   funext e fr H
   cases e <;> simp only [m8, jI] <;> (cases finish T lf.results fr H <;> simp)
  rw [eQ] at hv
  refine (vO hm hT hg hl (by simpa using hn) hI hr (fun _ => hv)).mono fun e w' ⟨v, r, H', c', he, hq, st, i', rp⟩ => ?_
  obtain ⟨k, ver, en, rfl, hk, rfl, rfl, rfl, hel, hfz⟩ := hq
  obtain ⟨l, hl, ok, hv⟩ := vU i' rp hk rfl
  have hget : ∀ {j : Nat} {l2 : Loc}, ([⟨0, l.size, l.place, l.mp⟩] : List Loc)[j]? = some l2 → j = 0 ∧ l2 = ⟨0, l.size, l.place, l.mp⟩ := fun {j l2} h => by
   cases j with
   | zero => simp at h; exact ⟨rfl, h.symm⟩
   | succ j => simp at h
  refine ⟨v, ⟨[⟨0, l.size, l.place, l.mp⟩], c'.prot⟩, he, ⟨st.prot, fun k l hl => ?_, st.os, st.tape, st.output, st.size, st.blk, fun b hb => ?_, st.newprot⟩, ⟨i'.base, rfl, i'.prot, fun j e l2 h1 h2 => ?_, fun j j' l2 l2' g cp cp' h1 h2 h3 h4 => by rw [(hget h1).1, (hget h2).1]⟩, ?_⟩
  ·rw [h0] at hl; simp at hl
  ·obtain ⟨j, l2, cap, h1, h2⟩ := hb
   obtain ⟨rfl, rfl⟩ := hget h1
   exact st.newloc b ⟨k, l, cap, hl, h2⟩
  ·obtain ⟨rfl, rfl⟩ := hget h2
   simp at h1
   subst h1
   refine ⟨rfl, ok.size, ok.pos, by rw [← hel]; exact ok.cells, fun h => by rw [← hel]; exact ok.nowhere h, ok.typed, (fun g cap hp hm => let ⟨es, ck, a1, a2, a3⟩ := ok.mapped g cap hp hm; ⟨es, ck, a1, by rw [← hel]; exact a2, by rw [← hel]; exact a3⟩), fun g cap hp hm => ?_⟩
   obtain ⟨cur, ty, a1, a2, a3, a4, a5, a6⟩ := ok.there g cap hp hm
   refine ⟨cur, ty, a1, a2, a3, by rw [← hel]; exact a4, fun i x j y hx hy => ?_, fun o v ho => by rw [← hfz, ← hel]; exact a6 o v ho⟩
   rw [← hel] at hx
   obtain ⟨v, r1, r2⟩ := a5 i x j y hx hy
   refine ⟨v, r1, ?_⟩
   rw [hel] at hx
   rw [List.getElem?_map] at hx
   obtain ⟨z, hz, rfl⟩ := Option.map_eq_some_iff.1 hx
   simp only [AVal.cells, List.getElem?_map] at hy
   obtain ⟨u, hu, rfl⟩ := Option.map_eq_some_iff.1 hy
   cases r2 with
   | p _ _ r => exact .p _ _ r
  ·exact .own 0 0 _ 0 ⟨0, l.size, l.place, l.mp⟩ v rfl (Nat.le_refl _) (fun _ => hv) (by obtain ⟨a, cp, rfl, _⟩ := hv.slice; exact ⟨a, _, _, rfl⟩)
def letQ (T : Tab) (rs : List LRes) (p : PVal) (H' : zb) : LExit → AFr → zb → Prop
 | .exit _, _, _ => False
 | _, fr, H => ∃ r E, finish T rs fr H = some r ∧ H = H' ++ E ∧ zj H fuel r = some p ∧ ∀ k ∈ zi H fuel r, H'.length ≤ k
theorem gX : ∀ (ks : List Nat) (H E : zb), (∀ k ∈ ks, H.length ≤ k) → ∃ E', freezeL (H ++ E) ks = H ++ E'
 | [], H, E, _ => ⟨E, rfl⟩
 | k :: ks, H, E, h => by
  have hk := h k (by simp)
  have : ∃ E1, freeze1 (H ++ E) k = H ++ E1 := by
   unfold freeze1
   split
   ·exact ⟨_, by rw [List.set_append_right _ _ hk]⟩
   ·exact ⟨E, rfl⟩
  obtain ⟨E1, h1⟩ := this
  obtain ⟨E2, h2⟩ := gX ks H E1 (fun k hk => h k (by simp [hk]))
  refine ⟨E2, ?_⟩
  rw [← h2, ← h1]
  rfl
theorem l9 {gl : Nat → AVal} {T : Tab} (hm : P.follows .mixedOrders = true) (hT : TabOk P base T) (hg : qK base gl) {f : FuncId} {lf : LFunc} (hl : zf P gl f = some lf) {m : List AVal → zb → Option (AVal × zb)}
  (h : ∀ args H r H', m args H = some (r, H') → (∀ x ∈ args, ∀ y, x = .p y → Fits y) → yb H.length H → args.length ≤ lf.n ∧ H'.length = H.length ∧ yb H.length H' ∧ ∃ p, r = .p p ∧ vc T lf.body (letQ T lf.results p H') (zV args) H) : bq P base f m := by
 refine ⟨qB hl, fun args H r H' hs c w vs hI hr => ?_⟩
 have hfit : ∀ x ∈ args, ∀ y, x = .p y → Fits y := fun x hx y hy => by
  subst hy
  obtain ⟨j, hj, hxj⟩ := List.getElem_of_mem hx
  have hlen := hr.1
  have := hr.2 j (.p y) (vs[j]'(by omega)) (by rw [List.getElem?_eq_getElem hj, hxj]) (by simp [hlen, hj])
  cases this with
  | p _ _ hp => exact ⟨_, _, hp⟩
 obtain ⟨hn, hlen, hb, p, rfl, hv⟩ := h args H r H' hs hfit hI.belowH
 have eQ : letQ T lf.results p H' = jI T lf.results fun r2 H2 => ∃ E, H2 = H' ++ E ∧ zj H2 fuel r2 = some p ∧ ∀ k ∈ zi H2 fuel r2, H'.length ≤ k := by
  funext e fr H2
  cases e <;> simp only [letQ, jI] <;> (cases finish T lf.results fr H2 <;> simp)
 rw [eQ] at hv
 refine (vO hm hT hg hl hn hI hr (fun _ => hv)).mono fun e w' ⟨v, r2, H2, c', he, hq, st, i', rp⟩ => ?_
 obtain ⟨E, rfl, hx, ht⟩ := hq
 obtain ⟨c2, e2, s2, i2, p2⟩ := i'.freezeL (zi (H' ++ E) fuel r2)
 have same := jQ (zi (H' ++ E) fuel r2) (H' ++ E)
 have hp : PRep c2.prot p v := by
  rw [jT same] at hx
  refine uy i2 fuel r2 v p (rp.step s2) hx (fun k hk => ?_)
  rw [← uj same] at hk
  exact (p2 k hk).step rfl (fun _ _ _ h => h) (fun e he => kI _ (H' ++ E) k e he)
   (fun e l g cap a b d hm o ho => i'.cell_at a (by rw [← e2]; exact b) d hm o ho)
 obtain ⟨E', hE'⟩ := gX _ H' E ht
 rw [hE'] at i2
 rw [← hlen] at hb
 have st := st.trans s2
 refine ⟨v, ⟨c2.locs.take H'.length, c2.prot⟩, he, ⟨st.prot, fun k l hl => ?_, st.os, st.tape, st.output, st.size, st.blk, fun b hb => ?_, st.newprot⟩, i2.dropTail hb, .p _ _ hp⟩
 ·obtain ⟨l', h1, h2, h3⟩ := st.locs k l hl
  have hk : k < H'.length := by rw [hlen, ← hI.len]; exact (List.getElem?_eq_some_iff.1 hl).1
  exact ⟨l', by simp [hk, h1], h2, h3⟩
 ·obtain ⟨k, l, cap, h1, h2⟩ := hb
  rw [List.getElem?_take] at h1
  split at h1
  ·exact st.newloc b ⟨k, l, cap, h1, h2⟩
  ·cases h1
def kT {α : Type} (f : α → α → Bool) : List α → List α → Bool
 | [], [] => true
 | x :: xs, y :: ys => f x y && kT f xs ys
 | _, _ => false
theorem yq {α : Type} {f : α → α → Bool} (h : ∀ a b, f a b = true → a = b) : ∀ a b, kT f a b = true → a = b
 | [], [], _ => rfl
 | x :: xs, y :: ys, e => by
  simp only [kT, Bool.and_eq_true] at e
  rw [h x y e.1, yq h xs ys e.2]
 | [], _ :: _, e => by simp [kT] at e
 | _ :: _, [], e => by simp [kT] at e
def eqP : Nat → PVal → PVal → Bool
 | n + 1, x, y => match x, y with
  | .bool a, .bool b => a == b
  | .int k a, .int k' b => decide (k = k') && decide (a = b)
  | .str a, .str b => decide (a = b)
  | .lst a, .lst b => kT (eqP n) a b
  | .nilp, .nilp => true
  | .cptr a, .cptr b => kT (eqP n) a b
  | .clo f a, .clo g b => decide (f = g) && kT (eqP n) a b
  | .nilf, .nilf => true
  | .nili, .nili => true
  | .agg a, .agg b => kT (eqP n) a b
  | .tup a, .tup b => kT (eqP n) a b
  | _, _ => false
 | 0, _, _ => false
theorem oE : ∀ n a b, eqP n a b = true → a = b
 | 0, _, _, h => by simp [eqP] at h
 | n + 1, a, b, h => by
  have ih := yq (oE n)
  unfold eqP at h
  split at h <;> first | rfl | (cases h; done) | (rw [ih _ _ h]; done) | (simp only [beq_iff_eq, decide_eq_true_eq, Bool.and_eq_true] at h; first | (rw [h]; done) | (rw [h.1, h.2]; done) | (rw [h.1, ih _ _ h.2]; done))
def eqV : Nat → AVal → AVal → Bool
 | n + 1, x, y => match x, y with
  | .junk, .junk => true
  | .anyb, .anyb => true
  | .p a, .p b => eqP n a b
  | .tight a, .tight b => kT (eqP n) a b
  | .own k o l v, .own k' o' l' v' => decide (k = k') && (decide (o = o') && (decide (l = l') && decide (v = v')))
  | .optr k o l v, .optr k' o' l' v' => decide (k = k') && (decide (o = o') && (decide (l = l') && decide (v = v')))
  | .omap k v, .omap k' v' => decide (k = k') && decide (v = v')
  | .nilm, .nilm => true
  | .agg a, .agg b => kT (eqV n) a b
  | .tup a, .tup b => kT (eqV n) a b
  | .clo f a, .clo g b => decide (f = g) && kT (eqV n) a b
  | _, _ => false
 | 0, _, _ => false
theorem eqV_ok : ∀ n a b, eqV n a b = true → a = b
 | 0, _, _, h => by simp [eqV] at h
 | n + 1, a, b, h => by
  have ih := yq (eqV_ok n)
  have ip := yq (oE n)
  unfold eqV at h
  split at h <;> first | rfl | (cases h; done) | (rw [oE _ _ _ h]; done) | (rw [ip _ _ h]; done) | (rw [ih _ _ h]; done) | (simp only [decide_eq_true_eq, Bool.and_eq_true] at h; first | (rw [h.1, h.2.1, h.2.2.1, h.2.2.2]; done) | (rw [h.1, h.2]; done) | (rw [h.1, ih _ _ h.2]; done))
def eqE (n : Nat) (a b : Ent) : Bool := decide (a.size = b.size) && (decide (a.ver = b.ver) && (decide (a.froz = b.froz) && (decide (a.ty = b.ty) && kT (eqV n) a.elems b.elems)))
theorem eqE_ok (n : Nat) (a b : Ent) (h : eqE n a b = true) : a = b := by
 simp only [eqE, decide_eq_true_eq, Bool.and_eq_true] at h
 obtain ⟨h1, h2, h3, h4, h5⟩ := h
 have := yq (eqV_ok n) _ _ h5
 cases a; cases b
 simp_all
def eqH (a b : zb) : Bool := kT (eqE 40) a b
theorem eqH_ok {a b : zb} (h : eqH a b = true) : a = b := yq (eqE_ok 40) a b h
noncomputable def least (p : Nat → Prop) : Nat := Classical.epsilon fun n => p n ∧ ∀ m, p m → n ≤ m
theorem sP {p : Nat → Prop} (h : ∃ n, p n) : p (least p) ∧ ∀ m, p m → least p ≤ m := by
 have : ∃ n, p n ∧ ∀ m, p m → n ≤ m := by
  obtain ⟨n, hn⟩ := h
  induction n using Nat.strongRecOn with
  | _ n ih =>
   by_cases hm : ∃ m, m < n ∧ p m
   ·obtain ⟨m, h1, h2⟩ := hm
    exact ih m h1 h2
   ·exact ⟨n, hn, fun m h2 => Nat.le_of_not_lt fun h1 => hm ⟨m, h1, h2⟩⟩
 exact Classical.epsilon_spec this
end Go.Abs

namespace Go.Abs.K
variable {P : Program} {base : Prot}
def rK (n : Nat) (x : AVal) : AVal := match x with
 | .p y => .p y
 | .tight l => .tight l
 | .own k off len ver => .own (n + k) off len ver
 | .optr k ver i off => .optr (n + k) ver i off
 | .omap k ver => .omap (n + k) ver
 | y => zk n y
theorem t9 (n : Nat) (x : AVal) : rK n x = zk n x := by cases x <;> simp [rK, zk]
def fA (n : Nat) (e : Ent) : Ent := ⟨e.size, e.ver, e.froz, e.elems.map (rK n), e.ty⟩
theorem lG (n : Nat) : fA n = wH n := by
 funext e
 unfold fA wH
 have h : rK n = zk n := funext (t9 n)
 rw [h]
def callC (T : Tab) (f : FuncId) (args : List AVal) (H : zb) : Option (AVal × zb) :=
 match T.mu f args H with
 | some r => some r
 | none => match zP (zj H fuel) args with
  | some ps => match T.fn f ps with
   | some (r, E) => some (rK H.length r, freezeL H (args.flatMap (zi H fuel)) ++ E.map (fA H.length))
   | none => none
  | none => none
theorem callC_eq (T : Tab) (f : FuncId) (args : List AVal) (H : zb) : callC T f args H = mg T f args H := by
 unfold callC mg
 simp only [t9, lG]
 cases T.mu f args H with
 | some r => rfl
 | none => cases zP (zj H fuel) args with
  | none => rfl
  | some ps => rfl
def xS (T : Tab) (o : LOper) (fr : AFr) (H : zb) : Option (AVal × zb) := match o.op with
 | .call f args => match o.guard with
  | none => callC T f (args.map (opd fr)) H
  | some (s, want) => match fr s with
   | .p (.bool b) => if b = want then callC T f (args.map (opd fr)) H else some (.p (.tup []), H)
   | .p (.tup _) => some (.p (.tup []), H)
   | _ => none
 | _ => zK T o fr H
theorem s8 (T : Tab) (o : LOper) (fr : AFr) (H : zb) : xS T o fr H = zK T o fr H := by
 unfold xS
 split
 ·rename_i f args ho
  unfold zK
  rw [ho]
  simp only [zn, callC_eq]
  cases o.guard with
  | none => rfl
  | some g => obtain ⟨s, w⟩ := g; rfl
 ·rfl
abbrev OutK := LExit × List AVal × zb
def xt (l : List AVal) (d : Option Nat) (x : AVal) : Option (List AVal) := match d with
 | none => some l
 | some d => if d < l.length then some (l.set d x) else none
theorem sr {l l' : List AVal} {d : Option Nat} {x : AVal} (h : xt l d x = some l') : put (zV l) d x = zV l' := by
 unfold xt at h
 split at h
 ·cases h; rfl
 ·rename_i d
  split at h
  case isFalse => cases h
  rename_i hd
  cases h
  funext i
  simp only [put, upd, zV]
  by_cases e : i = d
  ·subst e; rw [if_pos rfl, List.getElem?_set_self hd]
  ·rw [if_neg e, List.getElem?_set_ne (Ne.symm e)]
def pL (T : Tab) : List LOper → List AVal → zb → Option (List AVal × zb)
 | [], l, H => some (l, H)
 | o :: r, l, H => match xS T o (zV l) H with
  | some (x, H') => match xt l o.dst x with | some l' => pL T r l' H' | none => none
  | none => none
theorem sh {T : Tab} : ∀ (ops : List LOper) (l : List AVal) (H : zb) (l' : List AVal) (H' : zb), pL T ops l H = some (l', H') → ce T ops (zV l) H = some (zV l', H')
 | [], l, H, l', H', h => by cases h; rfl
 | o :: r, l, H, l', H', h => by
  unfold pL at h
  rw [s8] at h
  split at h
  case h_2 => cases h
  rename_i x H1 hx
  split at h
  case h_2 => cases h
  rename_i l1 hl
  unfold ce
  rw [hx]
  simp only
  rw [sr hl]
  exact sh r l1 H1 l' H' h
def runDK (T : Tab) : List LOper → List AVal → zb → Option (List AVal)
 | [], l, _ => some l
 | o :: r, l, H => match xS T o (zV l) H with
  | some (x, H') => if eqH H' H = true then (match xt l o.dst x with | some l' => runDK T r l' H | none => none) else none
  | none => none
theorem ae {T : Tab} {Q : AFr → Prop} : ∀ (ops : List LOper) (l : List AVal) (H : zb) (l' : List AVal), runDK T ops l H = some l' → Q (zV l') → pi T H Q ops (zV l)
 | [], l, H, l', h, hq => by cases h; exact hq
 | o :: r, l, H, l', h, hq => by
  unfold runDK at h
  rw [s8] at h
  split at h
  case h_2 => cases h
  rename_i x H1 hx
  split at h
  case isFalse => cases h
  rename_i he
  split at h
  case h_2 => cases h
  rename_i l1 hl
  unfold pi
  rw [hx]
  simp only
  rw [sr hl]
  exact ⟨eqH_ok he, ae r l1 H l' h hq⟩
def changedK (N : Nat) (H H' : zb) : List Nat := (List.range N).filter fun k => !(match H[k]?, H'[k]? with | some a, some b => eqE 40 a b | none, none => true | _, _ => false)
def lE (W : List Nat) (N : Nat) (o : LOper) (fr : AFr) (H H' : zb) : Bool :=
 if z9 o.op = true then (jM fr o.op).all fun k => decide (k < N) && !W.contains k
 else (List.range N).all fun k => W.contains k || (match H[k]?, H'[k]? with | some a, some b => eqE 40 b a | none, none => true | _, _ => false)
theorem sideB_okK {W : List Nat} {N : Nat} {o : LOper} {fr : AFr} {H H' : zb} (h : lE W N o fr H H' = true) : qD W N o fr H H' := by
 unfold lE at h
 unfold qD
 split at h
 ·rename_i hr
  rw [if_pos hr]
  intro k hk
  have := List.all_eq_true.1 h k hk
  simp only [Bool.and_eq_true, decide_eq_true_eq, Bool.not_eq_true'] at this
  exact ⟨this.1, by simpa using this.2⟩
 ·rename_i hr
  rw [if_neg hr]
  intro k hk hw
  have := List.all_eq_true.1 h k (List.mem_range.2 hk)
  simp only [Bool.or_eq_true] at this
  rcases this with h1 | h1
  ·exact absurd (by simpa using h1) hw
  ·split at h1
   ·rename_i a b ha hb
    rw [ha, hb, eqE_ok _ _ _ h1]
   ·rename_i ha hb
    rw [ha, hb]
   ·cases h1
def wOfK (T : Tab) (N : Nat) : List (LOper × Fl) → List AVal → zb → List Nat
 | [], _, _ => []
 | (o, fl) :: r, l, H => match xS T o (zV l) H with
  | some (x, H') => match xt l o.dst x with
   | some l' => (if decide (fl = .s) && !z9 o.op then changedK N H H' else []) ++ wOfK T N r l' H'
   | none => []
  | none => []
def runWK (T : Tab) (W : List Nat) (N : Nat) : List (LOper × Fl) → List AVal → zb → Option (List AVal × zb)
 | [], l, H => some (l, H)
 | (o, fl) :: r, l, H => match xS T o (zV l) H with
  | some (x, H') => if (decide (fl = .f) || decide (fl = .s) && lE W N o (zV l) H H') = true then (match xt l o.dst x with | some l' => runWK T W N r l' H' | none => none) else none
  | none => none
theorem ab {T : Tab} {W : List Nat} {N : Nat} {Q : AFr → zb → Prop} : ∀ (ops : List (LOper × Fl)) (l : List AVal) (H : zb) (l' : List AVal) (H' : zb), runWK T W N ops l H = some (l', H') → Q (zV l') H' → evalW T W N Q ops (zV l) H
 | [], l, H, l', H', h, hq => by cases h; exact hq
 | (o, fl) :: r, l, H, l', H', h, hq => by
  unfold runWK at h
  rw [s8] at h
  split at h
  case h_2 => cases h
  rename_i x H1 hx
  split at h
  case isFalse => cases h
  rename_i hs
  split at h
  case h_2 => cases h
  rename_i l1 hl
  simp only [evalW, hx]
  rw [sr hl]
  refine ⟨?_, ab r l1 H1 l' H' h hq⟩
  simp only [Bool.or_eq_true, Bool.and_eq_true, decide_eq_true_eq] at hs
  rcases hs with rfl | ⟨rfl, hs⟩
  ·exact trivial
  ·exact sideB_okK hs
def nV (f : List AVal → zb → Option OutK) : Nat → List AVal → zb → Option OutK
 | 0, _, _ => none
 | n + 1, l, H => match f l H with
  | some (.normal, l', H') => nV f n l' H'
  | some (.exit j, l', H') => some (.exit j, l', H')
  | some (.ret, l', H') => some (.ret, l', H')
  | none => none
def kD (T : Tab) (F : Nat) : LCode → List AVal → zb → Option OutK
 | .skip, l, H => some (.normal, l, H)
 | .region ops, l, H => match pL T ops l H with | some (l', H') => some (.normal, l', H') | none => none
 | .regionD ops, l, H => match runDK T ops l H with | some l' => some (.normal, l', H) | none => none
 | .regionW ops, l, H => match runWK T (wOfK T H.length ops l H) H.length ops l H with | some (l', H') => some (.normal, l', H') | none => none
 | .regionN _ _, _, _ => none
 | .seq a b, l, H => match kD T F a l H with
  | some (.normal, l', H') => kD T F b l' H'
  | some (.exit j, l', H') => some (.exit j, l', H')
  | some (.ret, l', H') => some (.ret, l', H')
  | none => none
 | .cond c a b, l, H => match opd (zV l) c with
  | .p (.bool true) => kD T F a l H
  | .p (.bool false) => kD T F b l H
  | _ => none
 | .block id b, l, H => match kD T F b l H with
  | some (.exit j, l', H') => if j = id then some (.normal, l', H') else some (.exit j, l', H')
  | some (.normal, l', H') => some (.normal, l', H')
  | some (.ret, l', H') => some (.ret, l', H')
  | none => none
 | .loop b, l, H => nV (kD T F b) F l H
 | .exit id, l, H => some (.exit id, l, H)
 | .ret, l, H => some (.ret, l, H)
 | .bad, _, _ => none
theorem xI {f : List AVal → zb → Option OutK} : ∀ (n : Nat) (l : List AVal) (H : zb) (l' : List AVal) (H' : zb), nV f n l H ≠ some (.normal, l', H')
 | 0, _, _, _, _ => by simp [nV]
 | n + 1, l, H, l', H' => by
  unfold nV
  split
  ·exact xI n _ _ _ _
  ·simp
  ·simp
  ·simp
noncomputable def m6 (p : Nat → Prop) : Nat := Classical.epsilon fun n => p n ∧ ∀ m, p m → n ≤ m
theorem nT {p : Nat → Prop} (h : ∃ n, p n) : p (m6 p) ∧ ∀ m, p m → m6 p ≤ m := by
 have : ∃ n, p n ∧ ∀ m, p m → n ≤ m := by
  obtain ⟨n, hn⟩ := h
  induction n using Nat.strongRecOn with
  | _ n ih =>
   by_cases hm : ∃ m, m < n ∧ p m
   ·obtain ⟨m, h1, h2⟩ := hm
    exact ih m h1 h2
   ·exact ⟨n, hn, fun m h2 => Nat.le_of_not_lt fun h1 => hm ⟨m, h1, h2⟩⟩
 exact Classical.epsilon_spec this
theorem wh {T : Tab} {F : Nat} : ∀ (code : LCode) (l : List AVal) (H : zb) (e : LExit) (l' : List AVal) (H' : zb) (Q : LExit → AFr → zb → Prop),
  kD T F code l H = some (e, l', H') → Q e (zV l') H' → vc T code Q (zV l) H
 | .skip, l, H, e, l', H', Q, h, hq => by cases h; exact hq
 | .region ops, l, H, e, l', H', Q, h, hq => by
  unfold kD at h
  split at h
  case h_2 => cases h
  rename_i l1 H1 ho
  cases h
  unfold vc
  rw [sh _ _ _ _ _ ho]
  exact hq
 | .regionD ops, l, H, e, l', H', Q, h, hq => by
  unfold kD at h
  split at h
  case h_2 => cases h
  rename_i l1 ho
  cases h
  unfold vc
  exact ae _ _ _ _ ho hq
 | .regionW ops, l, H, e, l', H', Q, h, hq => by
  unfold kD at h
  split at h
  case h_2 => cases h
  rename_i l1 H1 ho
  cases h
  unfold vc
  exact ⟨_, ab _ _ _ _ _ ho hq⟩
 | .regionN _ _, l, H, e, l', H', Q, h, hq => by simp [kD] at h
 | .seq a b, l, H, e, l', H', Q, h, hq => by
  unfold kD at h
  unfold vc
  split at h
  ·rename_i l1 H1 ha
   exact wh a l H _ _ _ _ ha (wh b l1 H1 _ _ _ _ h hq)
  ·rename_i j l1 H1 ha
   cases h
   exact wh a l H _ _ _ _ ha hq
  ·rename_i l1 H1 ha
   cases h
   exact wh a l H _ _ _ _ ha hq
  ·cases h
 | .cond c a b, l, H, e, l', H', Q, h, hq => by
  unfold kD at h
  unfold vc
  split at h
  ·rename_i hc
   rw [hc]
   simp only [if_true]
   exact wh a l H _ _ _ _ h hq
  ·rename_i hc
   rw [hc]
   simp only [Bool.false_eq_true, if_false]
   exact wh b l H _ _ _ _ h hq
  ·cases h
 | .block id b, l, H, e, l', H', Q, h, hq => by
  unfold kD at h
  unfold vc
  split at h
  ·rename_i j l1 H1 hb
   refine wh b l H _ _ _ _ hb ?_
   unfold kv
   split at h
   ·rename_i hj
    cases h
    simpa [hj] using hq
   ·rename_i hj
    cases h
    simpa [hj] using hq
  ·rename_i l1 H1 hb
   cases h
   exact wh b l H _ _ _ _ hb hq
  ·rename_i l1 H1 hb
   cases h
   exact wh b l H _ _ _ _ hb hq
  ·cases h
 | .loop b, l, H, e, l', H', Q, h, hq => by
  have he : e ≠ .normal := by
   rintro rfl
   exact xI _ _ _ _ _ h
  let p : AFr → zb → Nat → Prop := fun fr H n => ∃ l, fr = zV l ∧ nV (kD T F b) n l H = some (e, l', H')
  refine ⟨fun fr H => ∃ n, p fr H n, fun fr H => m6 (p fr H), ⟨F, l, rfl, h⟩, fun fr H hI => ?_⟩
  obtain ⟨hn, hmin⟩ := nT hI
  show vc T b (eB (fun fr' H' => (∃ n, p fr' H' n) ∧ m6 (p fr' H') < m6 (p fr H)) Q) fr H
  generalize m6 (p fr H) = n at hn hmin ⊢
  obtain ⟨l0, rfl, hit⟩ := hn
  cases n with
  | zero => simp [nV] at hit
  | succ m =>
   unfold nV at hit
   split at hit
   ·rename_i l1 H1 hb
    refine wh b l0 H _ _ _ _ hb ⟨⟨m, l1, rfl, hit⟩, ?_⟩
    have := (nT (p := p (zV l1) H1) ⟨m, l1, rfl, hit⟩).2 m ⟨l1, rfl, hit⟩
    omega
   ·rename_i j l1 H1 hb
    cases hit
    exact wh b l0 H _ _ _ _ hb hq
   ·rename_i l1 H1 hb
    cases hit
    exact wh b l0 H _ _ _ _ hb hq
   ·cases hit
 | .exit id, l, H, e, l', H', Q, h, hq => by cases h; exact hq
 | .ret, l, H, e, l', H', Q, h, hq => by cases h; exact hq
 | .bad, l, H, e, l', H', Q, h, hq => by cases h
def isEndK : LExit → Bool
 | .exit _ => false
 | _ => true
def padLK (n : Nat) (args : List AVal) : List AVal := args ++ List.replicate (n - args.length) (.p (.tup []))
theorem nW (n : Nat) (args : List AVal) : zV (padLK n args) = zV args := by
 funext i
 unfold zV padLK
 by_cases h : i < args.length
 ·rw [List.getElem?_append_left h]
 ·rw [List.getElem?_append_right (by omega), List.getElem?_eq_none (by omega : args.length ≤ i), List.getElem?_replicate]
  split <;> rename_i x hx
  ·split at hx
   ·cases hx; rfl
   ·cases hx
  ·rfl
def ac (T : Tab) (F : Nat) (lf : LFunc) (args : List AVal) (H : zb) : Option (AVal × zb) :=
 if args.length ≤ lf.n then
  match kD T F lf.body (padLK lf.n args) H with
  | some (e, l, H') => if isEndK e = true then (match finish T lf.results (zV l) H' with | some r => some (r, H') | none => none) else none
  | none => none
 else none
theorem runF_vcK {T : Tab} {F : Nat} {lf : LFunc} {args : List AVal} {H H' : zb} {r : AVal} (h : ac T F lf args H = some (r, H')) :
  args.length ≤ lf.n ∧ vc T lf.body (jI T lf.results fun r2 H2 => r2 = r ∧ H2 = H') (zV args) H := by
 unfold ac at h
 split at h
 case isFalse => cases h
 rename_i hn
 refine ⟨hn, ?_⟩
 split at h
 case h_2 => cases h
 rename_i e l H1 hr
 split at h
 case isFalse => cases h
 rename_i he
 split at h
 case h_2 => cases h
 rename_i r1 hf
 cases h
 rw [← nW lf.n args]
 refine wh _ _ _ _ _ _ _ hr ?_
 have fin : match finish T lf.results (zV l) H' with | some r2 => r2 = r ∧ H' = H' | none => False := by rw [hf]; exact ⟨rfl, rfl⟩
 cases e with
 | exit j => cases he
 | normal => exact fin
 | ret => exact fin
theorem lU {T : Tab} {F : Nat} {lf : LFunc} {args : List AVal} {H H' : zb} {r : AVal} (h : ac T F lf args H = some (r, H')) :
  ∃ e l, kD T F lf.body (padLK lf.n args) H = some (e, l, H') ∧ isEndK e = true ∧ finish T lf.results (zV l) H' = some r := by
 unfold ac at h
 split at h
 case isFalse => cases h
 split at h
 case h_2 => cases h
 rename_i e l H1 hr
 split at h
 case isFalse => cases h
 rename_i he
 split at h
 case h_2 => cases h
 rename_i r1 hf
 cases h
 exact ⟨e, l, hr, he, hf⟩
def runPK (T : Tab) (F : Nat) (lf : LFunc) (args : List PVal) : Option PVal :=
 match ac T F lf (args.map .p) [] with
 | some (r, H) => zj H fuel r
 | none => none
theorem pure_of_runK {gl : Nat → AVal} {T : Tab} (hm : P.follows .mixedOrders = true) (hT : TabOk P base T) (hg : qK base gl) {f : FuncId} {lf : LFunc} (hl : zf P gl f = some lf) (F : Nat) {s : List PVal → Option PVal}
  (h : ∀ args x, s args = some x → runPK T F lf args = some x) : zG P base f (za s) := by
 refine zd hm hT hg hl fun args x hs _ => ?_
 have hr := h args x hs
 unfold runPK at hr
 split at hr
 case h_2 => cases hr
 rename_i r H hf
 obtain ⟨hn, hv⟩ := runF_vcK hf
 refine ⟨by simpa using hn, ?_⟩
 clear hn hv
 have eQ : oH T lf.results x = jI T lf.results fun r H => zj H fuel r = some x := by
  funext e fr H
  cases e <;> simp only [oH, jI, gY] <;> (cases finish T lf.results fr H <;> simp)
 rw [eQ]
 obtain ⟨e, l, hc, he, hfin⟩ := lU hf
 rw [← nW lf.n (args.map .p)]
 refine wh _ _ _ _ _ _ _ hc ?_
 have fin : match finish T lf.results (zV l) H with | some r => zj H fuel r = some x | none => False := by rw [hfin]; exact hr
 cases e with
 | exit j => cases he
 | normal => exact fin
 | ret => exact fin
end Go.Abs.K

namespace Go.Abs
variable {P : Program} {base : Prot}
theorem RepL.one {c : Ctx} {x : AVal} {vs : List Value} (h : RepL c [x] vs) : ∃ v, vs = [v] ∧ Rep c x v := by
 obtain ⟨h1, h2⟩ := h
 match vs, h1 with
 | [v], _ => exact ⟨v, rfl, h2 0 x v rfl rfl⟩
end Go.Abs

namespace Go.Abs
open Go.RowKit Go.WideShapes Go.ChangeShapes Go.ChangeMaps
variable {P : Program} {base : Prot}
def vd (W : World) : Prot := fun b o => W.cell? ⟨b, o, none⟩
theorem law_of_fn {f : FuncId} {s : List PVal → Option PVal} (h : zG P base f (za s)) {W : World} (hb : Prot.le base (vd W)) {ps : List PVal} {vs : List Value} (hl : vs.length = ps.length)
  (hr : ∀ (j : Nat) x v, ps[j]? = some x → vs[j]? = some v → PRep (vd W) x v) (hs : s ps = some (.bool true)) :
  Calls P f vs.toArray W fun e W' => e = .returned (.bool true) ∧ Go.RowKit.Below W.heap.size W W' := by
 have hI : Inv base ⟨[], vd W⟩ [] W := ⟨hb, rfl, fun _ _ _ h => h, fun k e l h => by simp at h, fun k k' l l' g cp cp' h => by simp at h⟩
 refine (h.2 ps (.p (.bool true)) [] (by simp [za, hs]) ⟨[], vd W⟩ W vs hI (PRep.toRep hl hr)).mono fun e w' ⟨v, c', he, st, hI', rp⟩ => ?_
 cases rp with
 | p _ _ rp =>
  cases rp
  exact ⟨he, st.os, st.tape, st.output, st.size, fun k hk => st.blk k hk (fun ⟨j, l, cap, hl, _⟩ => by simp at hl)⟩
section
variable {H : Type} {enc : TypeId × Value → H} {W : World} {sp : Nat → Bool}
end
end Go.Abs

namespace Go.Abs
open Go.RowKit Go.WideShapes Go.ChangeShapes Go.ChangeMaps
section
variable {H : Type} {enc : TypeId × Value → H} {P : Program} {W : World} {sp : Nat → Bool}
def isS (P : Program) (t : TypeId) : Bool := match P.underlying t with
 | some (.struct _) => true
 | some (.array _ _) => true
 | _ => false
def uP (s : Bool) (c : List PVal) : PVal := if s then .agg c else c.headD .nilp
def HasFs (h : TypeId → List PVal → Prop) : List TypeId → List PVal → Prop
 | [], ps => ps = []
 | f :: r, ps => ∃ a b, ps = a ++ b ∧ h f a ∧ HasFs h r b
def vP (P : Program) : Nat → TypeId → List PVal → Prop
 | 0, _, _ => False
 | n + 1, t, ps => match P.underlying t with
  | some .bool => ∃ b, ps = [.bool b]
  | some (.int k) => ∃ z, ps = [.int k z] ∧ k.min ≤ z ∧ z ≤ k.max
  | some .string => ∃ s, ps = [.str s]
  | some (.slice e) => ∃ l : List (List PVal), ps = [.lst (l.map (uP (isS P e)))] ∧ ∀ c ∈ l, vP P n e c
  | some (.struct fs) => HasFs (vP P n) (fs.toList.map (·.type)) ps
  | some (.array k e) => HasFs (vP P n) (List.replicate k e) ps
  | _ => False
def bj (P : Program) : Nat → Nat → List Field → Bool
 | e, o, [] => o == e
 | e, o, f :: r => f.offset == o && bj P e (o + P.cellsOf f.type) r
def jh (P : Program) : Nat → TypeId → Bool
 | 0, _ => false
 | n + 1, t => match P.underlying t with
  | some .bool => true
  | some (.int _) => true
  | some .string => true
  | some (.slice e) => jh P n e && decide (0 < P.cellsOf e)
  | some (.struct fs) => (fs.toList.all fun f => jh P n f.type) && bj P (P.cellsOf t) 0 fs.toList
  | some (.array k e) => jh P n e && (P.cellsOf t == k * P.cellsOf e)
  | _ => false
theorem u9 {n : Nat} {t : TypeId} {c : List PVal} (h : vP P n t c) : (uP (isS P t) c).cells = c := by
 cases n with
 | zero => exact h.elim
 | succ n =>
  unfold vP at h
  unfold isS
  split at h <;> rename_i hu <;> simp only [hu, uP]
  ·obtain ⟨b, rfl⟩ := h; rfl
  ·obtain ⟨b, rfl, _⟩ := h; rfl
  ·obtain ⟨b, rfl⟩ := h; rfl
  ·obtain ⟨b, rfl, _⟩ := h; rfl
  ·rfl
  ·rfl
  ·exact h.elim
theorem oP (a : Addr) (k : Nat) : (a.add k).block = a.block ∧ (a.add k).off = a.off + k := by
 unfold Addr.add
 by_cases h : k = 0
 ·subst h; simp
 ·simp [h]
theorem cell_bo {a : Addr} {v : Value} (h : W.cell? a = some v) : W.cell? ⟨a.block, a.off, none⟩ = some v := by
 have hs := World.cell?_spot h
 rw [← h, ← hs]
theorem cell_add {a : Addr} {k j : Nat} {v : Value} (h : W.cell? ((a.add k).add j) = some v) : W.cell? ⟨a.block, a.off + k + j, none⟩ = some v := by
 have := cell_bo h
 rw [(oP _ _).1, (oP _ _).2, (oP _ _).1, (oP _ _).2] at this
 exact this
def yB (W : World) (ps : List PVal) (cs : List Value) : Prop := ps.length = cs.length ∧ (∀ (j : Nat) p v, ps[j]? = some p → cs[j]? = some v → PRep (vd W) p v) ∧ ∀ p ∈ ps, p.isCell = true
theorem bN {n fuel : Nat} (ih : ∀ t cs x, jh P n t = true → DataW.trod enc P W 0 sp true fuel t cs = some x → ∃ ps, vP P n t ps ∧ yB W ps cs) (cs : List Value) :
  ∀ (fs : List Field) (o : Nat) xs, bj P cs.length o fs = true → (fs.all fun f => jh P n f.type) = true → (fs.mapM fun f => DataW.trod enc P W 0 sp true fuel f.type ((cs.drop f.offset).take (P.cellsOf f.type))) = some xs →
   o ≤ cs.length ∧ ∃ ps, HasFs (vP P n) (fs.map (·.type)) ps ∧ yB W ps (cs.drop o)
 | [], o, xs, hc, _, _ => by
  simp only [bj, beq_iff_eq] at hc
  subst hc
  refine ⟨Nat.le_refl _, [], rfl, ?_, ?_, ?_⟩ <;> simp
 | f :: r, o, xs, hc, hp, hm => by
  simp only [bj, Bool.and_eq_true, beq_iff_eq] at hc
  obtain ⟨rfl, hc⟩ := hc
  simp only [List.all_cons, Bool.and_eq_true] at hp
  cases h1 : DataW.trod enc P W 0 sp true fuel f.type ((cs.drop f.offset).take (P.cellsOf f.type)) with
  | none => simp [List.mapM_cons, h1] at hm
  | some y =>
   cases h2 : (r.mapM fun f => DataW.trod enc P W 0 sp true fuel f.type ((cs.drop f.offset).take (P.cellsOf f.type))) with
   | none => simp [List.mapM_cons, h1, h2] at hm
   | some ys =>
    obtain ⟨hle, qs, hq, hql, hqr, hqc⟩ := bN ih cs r _ ys hc hp.2 h2
    obtain ⟨ps, hps, hpl, hpr, hpc⟩ := ih _ _ _ hp.1 h1
    have hlen : ps.length = P.cellsOf f.type := by rw [hpl]; simp; omega
    refine ⟨by omega, ps ++ qs, ⟨ps, qs, rfl, hps, hq⟩, ?_, ?_, ?_⟩
    ·simp only [List.length_append, hql, hlen, List.length_drop]; omega
    ·intro j p v hj hv
     by_cases hlt : j < ps.length
     ·rw [List.getElem?_append_left hlt] at hj
      refine hpr j p v hj ?_
      rw [List.getElem?_take, if_pos (by omega)]
      exact hv
     ·rw [List.getElem?_append_right (by omega)] at hj
      refine hqr (j - ps.length) p v hj ?_
      rw [List.getElem?_drop] at hv ⊢
      rw [← hv]; congr 1; omega
    ·intro p hp'
     rcases List.mem_append.1 hp' with h | h
     ·exact hpc p h
     ·exact hqc p h
def mi (P : Program) (e : TypeId) (k i : Nat) : List Field := (List.range' i k).map fun j => ⟨ "", e, j * P.cellsOf e, false, "", "", 0⟩
theorem px (e : TypeId) : ∀ (k i : Nat), bj P ((i + k) * P.cellsOf e) (i * P.cellsOf e) (mi P e k i) = true
 | 0, i => by simp [mi, bj]
 | k + 1, i => by
  have h := px e k (i + 1)
  have e1 : i + 1 + k = i + (k + 1) := by omega
  have e2 : (i + 1) * P.cellsOf e = i * P.cellsOf e + P.cellsOf e := Nat.succ_mul _ _
  rw [e1, e2] at h
  have e3 : mi P e (k + 1) i = ⟨ "", e, i * P.cellsOf e, false, "", "", 0⟩ :: mi P e k (i + 1) := by simp [mi, List.range'_succ]
  rw [e3]
  simp only [bj, beq_self_eq_true, Bool.true_and]
  exact h
theorem asFs_types (e : TypeId) (k i : Nat) : (mi P e k i).map (·.type) = List.replicate k e := by
 unfold mi
 rw [List.map_map]
 apply List.ext_getElem?
 intro j
 by_cases h : j < k
 ·simp [h]
 ·simp [h]
theorem xW {α : Type} (e : TypeId) (r : TypeId → Nat → Option α) : ∀ (k i : Nat), ((mi P e k i).mapM fun f => r f.type f.offset) = (List.range' i k).mapM fun j => r e (j * P.cellsOf e)
 | 0, i => rfl
 | k + 1, i => by
  have e3 : mi P e (k + 1) i = ⟨ "", e, i * P.cellsOf e, false, "", "", 0⟩ :: mi P e k (i + 1) := by simp [mi, List.range'_succ]
  rw [e3, List.range'_succ, List.mapM_cons, List.mapM_cons, xW e r k (i + 1)]
theorem yR : ∀ (n : Nat) (fuel : Nat) (t : TypeId) (cs : List Value) x, jh P n t = true → DataW.trod enc P W 0 sp true fuel t cs = some x → ∃ ps, vP P n t ps ∧ yB W ps cs
 | 0, _, _, _, _, h, _ => by simp [jh] at h
 | n + 1, 0, _, _, _, _, h => by simp [DataW.trod] at h
 | n + 1, fuel + 1, t, cs, x, hp, h => by
  have one : ∀ (p : PVal) (v : Value), PRep (vd W) p v → p.isCell = true → yB W [p] [v] := fun p v h1 h2 => by
   refine ⟨rfl, fun j q w hq hw => ?_, fun q hq => ?_⟩
   ·cases j with
    | zero => simp at hq hw; subst hq; subst hw; exact h1
    | succ j => simp at hq
   ·simp at hq; subst hq; exact h2
  unfold jh at hp
  split at hp <;> rename_i hu
  ·obtain ⟨b, rfl, _⟩ := DataW.trod_bool hu h
   refine ⟨[.bool b], ?_, one _ _ (.bool b) rfl⟩
   unfold vP; rw [hu]; exact ⟨b, rfl⟩
  ·rename_i k
   unfold DataW.trod at h
   rw [hu] at h
   split at h <;> simp_all
   rename_i k' z hk
   subst hk
   obtain ⟨⟨rfl, hw⟩, _⟩ := h
   refine ⟨[.int _ z], ?_, one _ _ (.int _ z) rfl⟩
   unfold vP; rw [hu]
   simp only [Lit.wf, Bool.and_eq_true, decide_eq_true_eq] at hw
   exact ⟨z, rfl, hw⟩
  ·unfold DataW.trod at h
   rw [hu] at h
   split at h <;> simp_all
   rename_i s
   refine ⟨[.str s.data.toList], ?_, one _ _ ?_ rfl⟩
   ·unfold vP; rw [hu]; exact ⟨_, rfl⟩
   ·have e : (Value.string s) = .string ⟨s.data.toList.toArray⟩ := by cases s; simp
    rw [e]
    exact .str _ (by rw [Array.length_toList]; exact h.1)
  ·rename_i e
   simp only [Bool.and_eq_true, decide_eq_true_eq] at hp
   obtain ⟨hpe, hpos⟩ := hp
   rcases DataW.trod_slice hu h with ⟨rfl, _⟩ | ⟨a, len, cap, elems, rest, n', hfu, rfl, _, _, hlc, hcm, hl, hel, _, _⟩
   ·refine ⟨[.lst []], ?_, one _ _ (.lst [] none 0 0 1 0 0 (fun _ _ => undef) rfl (Nat.le_refl _) (Nat.zero_le _) (by simp) (by simp) (by simp) (by simp) (by simp)) rfl⟩
    unfold vP; rw [hu]; exact ⟨[], rfl, by simp⟩
   ·have each : ∀ i, ∃ c : List PVal, i < len → vP P n e c ∧ ∃ vs : List Value, vs.length = P.cellsOf e ∧ (∀ j, j < P.cellsOf e → W.cell? ((a.add (i * P.cellsOf e)).add j) = vs[j]?) ∧ yB W c vs := fun i => by
     by_cases hi : i < len
     ·have := hel i hi
      rw [List.getElem?_eq_getElem (by omega)] at this
      obtain ⟨vs, hvs, ht⟩ := Option.bind_eq_some_iff.1 this
      obtain ⟨_, h1, h2⟩ := World.cells?_some hvs
      obtain ⟨c, hc, hg⟩ := yR n n' e vs _ hpe ht
      exact ⟨c, fun _ => ⟨hc, vs, h1, h2, hg⟩⟩
     ·exact ⟨[], fun h => absurd h hi⟩
    obtain ⟨F, hF⟩ := Classical.axiomOfChoice each
    refine ⟨[.lst (((List.range len).map F).map (uP (isS P e)))], ?_, one _ _ ?_ rfl⟩
    ·unfold vP; rw [hu]
     refine ⟨(List.range len).map F, rfl, fun c hc => ?_⟩
     obtain ⟨i, hi, rfl⟩ := List.mem_map.1 hc
     exact (hF i (List.mem_range.1 hi)).1
    ·have hcell : ∀ i j, i < len → j < P.cellsOf e → ∃ v, W.cell? ⟨a.block, a.off + i * P.cellsOf e + j, none⟩ = some v ∧ ∀ p, (F i)[j]? = some p → PRep (vd W) p v := fun i j hi hj => by
      obtain ⟨hT, vs, hl, hc, hg1, hg2, hg3⟩ := hF i hi
      have hv : vs[j]? = some vs[j] := List.getElem?_eq_getElem (by omega)
      have := hc j hj
      rw [hv] at this
      exact ⟨vs[j], cell_add this, fun p hp => hg2 j p _ hp hv⟩
     refine .lst _ (some a) len cap (P.cellsOf e) a.block a.off (fun i j => (W.cell? ⟨a.block, a.off + i * P.cellsOf e + j, none⟩).getD undef) (by simp) hlc hcm (fun hne => ?_) (fun y hy => ?_) (fun i j hi hj => ?_) (fun i y j p hi hj => ?_) (fun y hy p hp => ?_)
     ·have h0 : 0 < len := by
       rcases Nat.eq_zero_or_pos len with h0 | h0
       ·subst h0; simp at hne
       ·exact h0
      obtain ⟨hT, vs, hl, hc, hg⟩ := hF 0 h0
      have hv : vs[0]? = some vs[0] := List.getElem?_eq_getElem (by omega)
      have := hc 0 hpos
      rw [hv, Nat.zero_mul, show (a.add 0).add 0 = a from rfl] at this
      have := World.cell?_spot this
      cases a
      simp at this
      subst this
      rfl
     ·obtain ⟨c, hc, rfl⟩ := List.mem_map.1 hy
      obtain ⟨i, hi, rfl⟩ := List.mem_map.1 hc
      obtain ⟨hT, vs, hl, hc, hg⟩ := hF i (List.mem_range.1 hi)
      rw [u9 hT, hg.1, hl]
     ·have hi' : i < len := by simpa using hi
      obtain ⟨v, hv, _⟩ := hcell i j hi' hj
      show W.cell? _ = _
      rw [hv]; rfl
     ·have hi' : i < len := by
       have := (List.getElem?_eq_some_iff.1 hi).1
       simpa using this
      have hyi : y = uP (isS P e) (F i) := by
       simp [hi'] at hi
       exact hi.symm
      obtain ⟨hT, vs, hl, hc, hg⟩ := hF i hi'
      rw [hyi, u9 hT] at hj
      have hj' : j < P.cellsOf e := by
       have := (List.getElem?_eq_some_iff.1 hj).1
       rw [hg.1, hl] at this
       exact this
      obtain ⟨v, hv, hr⟩ := hcell i j hi' hj'
      rw [hv]
      exact hr p hj
     ·obtain ⟨c, hc, rfl⟩ := List.mem_map.1 hy
      obtain ⟨i, hi, rfl⟩ := List.mem_map.1 hc
      obtain ⟨hT, vs, hl, hc, hg⟩ := hF i (List.mem_range.1 hi)
      rw [u9 hT] at hp
      exact hg.2.2 p hp
  ·rename_i fs
   simp only [Bool.and_eq_true] at hp
   unfold DataW.trod at h
   rw [hu] at h
   have h' : (if cs.length = P.cellsOf t then (fs.toList.mapM fun f => DataW.trod enc P W 0 sp true fuel f.type ((cs.drop f.offset).take (P.cellsOf f.type))).map fun xs => (DataW.agg (xs.map (·.1)), xs.flatMap (·.2)) else none) = some x := by
    simpa using h
   clear h
   split at h'
   case isFalse => cases h'
   rename_i hl
   obtain ⟨xs, hxs, _⟩ := Option.map_eq_some_iff.1 h'
   obtain ⟨_, ps, h1, h2⟩ := bN (fun t cs x => yR n fuel t cs x) cs fs.toList 0 xs (by rw [hl]; exact hp.2) hp.1 hxs
   refine ⟨ps, ?_, by simpa using h2⟩
   unfold vP; rw [hu]; exact h1
  ·rename_i k e
   simp only [Bool.and_eq_true, beq_iff_eq] at hp
   obtain ⟨hpe, hsz⟩ := hp
   unfold DataW.trod at h
   rw [hu] at h
   have h' : (if cs.length = P.cellsOf t then ((List.range k).mapM fun i => DataW.trod enc P W 0 sp true fuel e ((cs.drop (i * P.cellsOf e)).take (P.cellsOf e))).map fun xs => (DataW.agg (xs.map (·.1)), xs.flatMap (·.2)) else none) = some x := by
    simpa using h
   clear h
   split at h'
   case isFalse => cases h'
   rename_i hl
   obtain ⟨xs, hxs, _⟩ := Option.map_eq_some_iff.1 h'
   rw [List.range_eq_range', ← xW (P := P) e (fun t o => DataW.trod enc P W 0 sp true fuel t ((cs.drop o).take (P.cellsOf t))) k 0] at hxs
   have hc : bj P cs.length 0 (mi P e k 0) = true := by
    have := px (P := P) e k 0
    rw [Nat.zero_add, Nat.zero_mul] at this
    rw [hl, hsz]
    exact this
   have ha : ((mi P e k 0).all fun f => jh P n f.type) = true := by
    rw [List.all_eq_true]
    intro f hf
    obtain ⟨j, -, rfl⟩ := List.mem_map.1 hf
    exact hpe
   obtain ⟨_, ps, h1, h2⟩ := bN (fun t cs x => yR n fuel t cs x) cs (mi P e k 0) 0 xs hc ha hxs
   rw [asFs_types] at h1
   refine ⟨ps, ?_, by simpa using h2⟩
   unfold vP; rw [hu]; exact h1
  ·cases hp
theorem az {n : Nat} {t : TypeId} {v : Value} {d : DataW H} {ps : List MemPlace} {r : Reach} {b0 : Nat} (hp : jh P n t = true) (hv : Value.okWide P W r b0 t v) (h : DataW.Trod enc P W 0 sp true t v d ps) :
  ∃ c : List PVal, vP P n t c ∧ PRep (vd W) (uP (isS P t) c) v := by
 obtain ⟨fuel, hf⟩ := h
 obtain ⟨c, hc, g1, g2, g3⟩ := yR n fuel t _ _ hp hf
 refine ⟨c, hc, ?_⟩
 cases n with
 | zero => exact hc.elim
 | succ n =>
  have one : ∀ p : PVal, c = [p] → v.cells.toList = [v] → PRep (vd W) p v := fun p e1 e2 => by
   subst e1
   exact g2 0 p v rfl (by rw [e2]; rfl)
  unfold vP at hc
  unfold isS
  split at hc <;> rename_i hu <;> simp only [hu, uP]
  ·obtain ⟨b, rfl⟩ := hc
   obtain ⟨x, rfl⟩ := okWide_bool hu hv
   exact one _ rfl rfl
  ·obtain ⟨b, rfl, _⟩ := hc
   obtain ⟨x, rfl⟩ := okWide_int hu hv
   exact one _ rfl rfl
  ·obtain ⟨b, rfl⟩ := hc
   obtain ⟨x, rfl⟩ := okWide_string hu hv
   exact one _ rfl rfl
  ·obtain ⟨b, rfl, _⟩ := hc
   obtain ⟨x, y, z, rfl⟩ := okWide_slice hu hv
   exact one _ rfl rfl
  ·obtain ⟨cs, rfl, hsz⟩ := okWide_struct hu hv
   have e : Value.agg cs = .agg cs.toList.toArray := by simp
   rw [e]
   refine .agg c cs.toList (by rw [g1]; rfl) (fun j p v h1 h2 => g2 j p v h1 h2) g3
  ·simp only [Value.okWide, hu] at hv
   obtain ⟨cs, rfl, -⟩ := hv
   have e : Value.agg cs = .agg cs.toList.toArray := by simp
   rw [e]
   refine .agg c cs.toList (by rw [g1]; rfl) (fun j p v h1 h2 => g2 j p v h1 h2) g3
  ·exact hc.elim
end
end Go.Abs

namespace Go.Abs
open Go.RowKit
variable {P : Program} {base : Prot}
theorem Inv.other {c : Ctx} {H : zb} {w w' : World} {row : Option Nat} (hI : Inv base c H w) (hg : w.grownBy w' row) (hr : ∀ r, row = some r → ∃ o : Obj, w.heap[r]? = some o ∧ o.isCells = false)
  (hn : ∀ (r k : Nat) l cap, row = some r → c.locs[k]? = some l → l.mp = true → l.place = some (r, cap) → False) : Inv base c H w' := by
 have same : ∀ b, b < w.heap.size → (∀ cur ty fr, w.heap[b]? = some (.cells cur ty fr) → w'.heap[b]? = w.heap[b]?) := fun b hb cur ty fr hc => by
  refine hg.block b hb (fun e => ?_)
  obtain ⟨o, h1, h2⟩ := hr b e.symm
  rw [hc] at h1
  cases h1
  simp [Obj.isCells] at h2
 refine ⟨hI.base, hI.len, fun b o v hv => ?_, fun k e l h1 h2 => ?_, hI.inj⟩
 ·have h1 := hI.prot b o v hv
  have hb := hI.prot_lt hv
  have : ∃ cur ty fr, w.heap[b]? = some (.cells cur ty fr) := by
   unfold World.cell? at h1
   simp only at h1
   cases ho : w.heap[b]? with
   | none => rw [ho] at h1; simp at h1
   | some ob =>
    rw [ho] at h1
    cases ob with
    | cells cur ty fr => exact ⟨_, _, _, rfl⟩
    | _ => simp at h1
  obtain ⟨cur, ty, fr, hc⟩ := this
  rw [cell_of_heap (same b hb cur ty fr hc)]
  exact h1
 ·have ok := hI.ent k e l h1 h2
  have hb : ∀ g cap, l.place = some (g, cap) → w'.heap[g]? = w.heap[g]? := fun g cap hp => by
   cases hm : l.mp with
   | false =>
    obtain ⟨cur, ty, hh, _⟩ := ok.there g cap hp hm
    exact same g (hI.loced_lt ⟨k, l, cap, h2, hp⟩) _ _ _ hh
   | true => exact hg.block g (hI.loced_lt ⟨k, l, cap, h2, hp⟩) (fun e => hn g k l cap e.symm h2 hm hp)
  exact ⟨ok.ver, ok.size, ok.pos, ok.cells, ok.nowhere, fun g cap cur ty fr hl hh => ok.typed g cap cur ty fr hl ((hb g cap hl).symm.trans hh), (fun g cap hl hm => by
   obtain ⟨es, ck, a1, a2⟩ := ok.mapped g cap hl hm
   exact ⟨es, ck, (hb g cap hl).trans a1, a2⟩), fun g cap hl hm => by
   obtain ⟨cur, ty, a1, a2⟩ := ok.there g cap hl hm
   exact ⟨cur, ty, (hb g cap hl).trans a1, a2⟩⟩
theorem Step.other {c c' : Ctx} {w0 w w' : World} {row : Option Nat} (h : Step c w0 c' w) (hg : w.grownBy w' row) (hr : ∀ r, row = some r → w0.heap.size ≤ r) : Step c w0 c' w' :=
 ⟨h.prot, h.locs, hg.os.trans h.os, hg.tape.trans h.tape, hg.output.trans h.output, Nat.le_trans h.size hg.size,
  fun b hb hn => (hg.block b (Nat.lt_of_lt_of_le hb h.size) (fun e => by have := hr b e.symm; omega)).trans (h.blk b hb hn), h.newloc, h.newprot⟩
theorem Step.from {B : Nat} {c c' : Ctx} {H : zb} {w w' : World} (h : Step c w c' w') (hI : Inv base c H w) (hm : ∀ (k : Nat) l g cap, c.locs[k]? = some l → l.mp = true → l.place = some (g, cap) → g < B) : KeepsFrom B w w' :=
 ⟨h.size, fun k o hB hk ho => by
  have hlt := (Array.getElem?_eq_some_iff.1 hk).1
  rw [h.blk k hlt (fun ⟨j, l, cap, h1, h2⟩ => ?_)]
  ·exact hk
  ·obtain ⟨e, _, ok⟩ := hI.entOf h1
   cases hp : l.mp with
   | true => have := hm j l k cap h1 hp h2; omega
   | false =>
    obtain ⟨cur, ty, hh, _⟩ := ok.there k cap h2 hp
    rw [hk] at hh
    cases hh
    simp [Obj.isCells] at ho⟩
theorem Step.obj {c c' : Ctx} {H : zb} {w w' : World} (h : Step c w c' w') (hI : Inv base c H w) {k : Nat} {o : Obj} (hk : w.heap[k]? = some o) (h1 : o.isCells = false) (h2 : ∀ es ck, o ≠ .map es ck) : w'.heap[k]? = some o := by
 have hlt := (Array.getElem?_eq_some_iff.1 hk).1
 rw [h.blk k hlt (fun ⟨j, l, cap, a, b⟩ => ?_)]
 ·exact hk
 ·obtain ⟨e, _, ok⟩ := hI.entOf a
  cases hp : l.mp with
  | true => obtain ⟨es, ck, hh, _⟩ := ok.mapped k cap b hp; rw [hk] at hh; cases hh; exact h2 _ _ rfl
  | false => obtain ⟨cur, ty, hh, _⟩ := ok.there k cap b hp; rw [hk] at hh; cases hh; simp [Obj.isCells] at h1
theorem Inv.notMap {c : Ctx} {H : zb} {w : World} (hI : Inv base c H w) {g : Nat} {o : Obj} (hg : w.heap[g]? = some o) (ho : ∀ es ck, o ≠ .map es ck) {k : Nat} {l : Loc} {cap : Nat} (hl : c.locs[k]? = some l) (hm : l.mp = true) (hp : l.place = some (g, cap)) : False := by
 obtain ⟨e, _, ok⟩ := hI.entOf hl
 obtain ⟨es, ck, hh, _⟩ := ok.mapped g cap hp hm
 rw [hg] at hh
 cases hh
 exact ho _ _ rfl
def MapsOld (H H' : zb) : Prop := ∀ (k : Nat) e, H'[k]? = some e → e.size = 0 → ∃ e0, H[k]? = some e0 ∧ e0.size = 0 ∧ e0.ver = e.ver
theorem MapsOld.low {c c' : Ctx} {H H' : zb} {w w' : World} (h : MapsOld H H') (hI : Inv base c H w) (hs : Step c w c' w') (hI' : Inv base c' H' w') {k : Nat} {l : Loc} {g cap : Nat} (hl : c'.locs[k]? = some l) (hm : l.mp = true) (hp : l.place = some (g, cap)) : g < w.heap.size := by
 obtain ⟨e, he, ok⟩ := hI'.entOf hl
 have hz : e.size = 0 := by have := ok.pos; rw [hm] at this; exact of_decide_eq_true this.symm
 obtain ⟨e0, h0, h1, h2⟩ := h k e he hz
 obtain ⟨l0, a1, ok0⟩ := hI.loc h0
 obtain ⟨l2, b1, b2, b3⟩ := hs.locs k l0 a1
 rw [hl] at b1
 cases b1
 have e1 : l = l0 := b3 (by rw [ok.ver, ok0.ver, h2])
 subst e1
 exact hI.loced_lt ⟨k, l, cap, a1, hp⟩
abbrev WR (l : Nat) : Fence := Fence.wide.inRound l
theorem upon_in {l n : Nat} {o : Oper} {a : Act} {next next' : Act → World → Prop} {Q : Exit → Act → World → Prop} (hn : ∀ a w, next a w → next' a w) {r : Result Next} (h : o.upon P a next Q r) : o.uponIn (WR l) n P a next' Q r := by
 match r, h with
 | .ok (.value v) w, h => exact hn _ _ h
 | .ok .skip w, h => exact hn _ _ h
 | .ok (.defer d) w, h => exact hn _ _ h
 | .ok (.enter f args) w, h =>
  refine ⟨fun h => by simp [Fence.wide] at h, CallsIn.inRound l ((callsIn_wide.2 h).mono ?_)⟩
  intro e w' hq
  cases e with
  | returned v => exact hn _ _ hq
  | panicked ch => exact hq
  | outgrown => exact hq
 | .ok (.row row args) w, h =>
  refine ⟨fun h => by simp [Fence.wide] at h, fun c cs _ => ?_⟩
  obtain ⟨v, w', hq, hs⟩ := h c cs
  exact ⟨v, w', hn _ _ hq, (stepsIn_wide (P := P)).2 hs⟩
 | .halt (.panic v) w, h => exact h
theorem bC {l0 n : Nat} {ops : Array Oper} {Q : Exit → Act → World → Prop} (hd : ∀ (i : Nat) o, ops[i]? = some o → ∀ c, o.op ≠ .defer c) (hQ : ¬ LetsOut Q) : ∀ (l : List Nat) (a : Act) (w : World), wpOps P ops Q l a w → wpOpsIn (WR l0) n P ops Q l a w
 | [], _, _, h => h
 | i :: rest, a, w, h => by
  unfold wpOps at h
  unfold wpOpsIn
  cases ho : ops[i]? with
  | none => rw [ho] at h; exact bC hd hQ rest a w h
  | some o =>
   rw [ho] at h
   simp only at h ⊢
   split
   ·rename_i hw
    rw [if_pos hw] at h
    rcases h with h | ⟨_, h⟩
    ·refine ⟨fun _ _ => trivial, ?_⟩
     rw [show (WR l0).round = some l0 from rfl, Oper.semAt_some _ _ _ (hd i o ho)]
     exact upon_in (fun a w hh => bC hd hQ rest a w hh) h
    ·exact absurd h hQ
   ·rename_i hw
    rw [if_neg hw] at h
    exact ⟨fun _ _ => trivial, bC hd hQ rest _ w h⟩
def qR : Code → Bool
 | .skip => true
 | .region _ ops draw => !draw && ops.toList.all (fun o => match o.op with | .defer _ => false | _ => true)
 | .seq a b => qR a && qR b
 | .cond _ a b => qR a && qR b
 | .block _ b => qR b
 | .exit _ => true
 | _ => false
section
variable {gl : Nat → AVal} {n : Nat}
theorem LQ_noOut {ds : List Deferred} {c : Ctx} {w : World} {Q : LExit → AFr → zb → Prop} : ¬ LetsOut (LQ base ds n c w Q) := by
 rintro ⟨a, w', h⟩
 obtain ⟨le, fr', H', c', q, he, _⟩ := h
 cases le <;> simp [oD] at he
theorem vN {l0 m : Nat} {ds : List Deferred} {T : Tab} (hT : TabOk P base T) (hg : qK base gl) : ∀ (code : Code) (Q : LExit → AFr → zb → Prop) (c : Ctx) (H : zb) (w : World) (fr : AFr) (a : Act), qR code = true →
  Inv base c H w → Sim n c fr a → a.defers = ds → vc T (zJ P gl n code) Q fr H → code.wpIn (WR l0) m P (LQ base ds n c w Q) a w
 | .skip, Q, c, H, w, fr, a, _, hI, hs, hd, h => wpIn_skip ⟨.normal, fr, H, c, h, rfl, .refl _ _, hI, hs, hd⟩
 | .region id ops draw, Q, c, H, w, fr, a, hp, hI, hs, hd, h => by
  simp only [qR, Bool.and_eq_true, Bool.not_eq_true'] at hp
  obtain ⟨hdr, hp⟩ := hp
  subst hdr
  simp only [zJ, Bool.false_eq_true, if_false] at h
  simp only [vc] at h
  cases he : ce T (ops.toList.map (zg P gl n ops)) fr H with
  | none => rw [he] at h; exact h.elim
  | some r =>
   obtain ⟨fr', H'⟩ := r
   rw [he] at h
   refine wpIn_region (bC (fun i o ho cc e => ?_) LQ_noOut _ _ _ ?_)
   ·have := List.all_eq_true.1 hp o (by simpa using Array.mem_of_getElem? ho)
    rw [e] at this
    simp at this
   ·have := mV hT hg ops (LQ base ds n c w Q) ops.toList 0 (by simp) c H w fr a fr' H' hI hs he (fun c' w' a' s' i' m' d' => ⟨.normal, fr', H', c', h, rfl, s', i', m', d'.trans hd⟩)
    rw [List.range_eq_range']
    simpa using this
 | .seq x y, Q, c, H, w, fr, a, hp, hI, hs, hd, h => by
  simp only [qR, Bool.and_eq_true] at hp
  simp only [zJ, vc] at h
  refine wpIn_seq (wpIn_mono (vN hT hg x _ c H w fr a hp.1 hI hs hd h) fun e a' w' hq => ?_)
  obtain ⟨le, fr', H', c', q, he, s', i', m', d'⟩ := hq
  subst he
  cases le with
  | normal => exact wpIn_mono (vN hT hg y Q c' H' w' fr' a' hp.2 i' m' d' q) fun e a2 w2 hq2 => hq2.step s'
  | exit id => exact ⟨.exit id, fr', H', c', q, rfl, s', i', m', d'⟩
  | ret => exact ⟨.ret, fr', H', c', q, rfl, s', i', m', d'⟩
 | .cond cc x y, Q, c, H, w, fr, a, hp, hI, hs, hd, h => by
  simp only [qR, Bool.and_eq_true] at hp
  simp only [zJ, vc] at h
  have rc := sx hg hs hI.base cc
  split at h
  case h_3 => exact h.elim
  case h_2 =>
   rename_i hc
   rw [hc] at rc
   have hv : ∃ t, a.eval cc = .bool t := by
    generalize a.eval cc = v at rc
    cases rc with | anyb t => exact ⟨t, rfl⟩
   obtain ⟨t, hv⟩ := hv
   refine wpIn_cond hv ?_
   cases t with
   | true => simp only [if_true]; exact vN hT hg x Q c H w fr a hp.1 hI hs hd h.1
   | false => simp only [Bool.false_eq_true, if_false]; exact vN hT hg y Q c H w fr a hp.2 hI hs hd h.2
  rename_i t hc
  rw [hc] at rc
  have hv : a.eval cc = .bool t := by
   generalize a.eval cc = v at rc
   cases rc with | p _ _ rc => cases rc; rfl
  refine wpIn_cond hv ?_
  cases t with
  | true => simp only [if_true] at h ⊢; exact vN hT hg x Q c H w fr a hp.1 hI hs hd h
  | false => simp only [Bool.false_eq_true, if_false] at h ⊢; exact vN hT hg y Q c H w fr a hp.2 hI hs hd h
 | .block id x, Q, c, H, w, fr, a, hp, hI, hs, hd, h => by
  simp only [qR] at hp
  simp only [zJ, vc] at h
  refine wpIn_block (wpIn_mono (vN hT hg x _ c H w fr a hp hI hs hd h) fun e a' w' hq => ?_)
  obtain ⟨le, fr', H', c', q, he, s', i', m', d'⟩ := hq
  subst he
  cases le with
  | normal => exact ⟨.normal, fr', H', c', q, rfl, s', i', m', d'⟩
  | exit j =>
   simp only [kv] at q
   simp only [oD, Exit.inBlock]
   split at q
   ·rename_i hj; rw [if_pos hj]; exact ⟨.normal, fr', H', c', q, rfl, s', i', m', d'⟩
   ·rename_i hj; rw [if_neg hj]; exact ⟨.exit j, fr', H', c', q, rfl, s', i', m', d'⟩
  | ret => exact ⟨.ret, fr', H', c', q, rfl, s', i', m', d'⟩
 | .exit id, Q, c, H, w, fr, a, _, hI, hs, hd, h => wpIn_exit ⟨.exit id, fr, H, c, h, rfl, .refl _ _, hI, hs, hd⟩
def KeepsProt (pr : Prot) (A B : World) : Prop := ∀ b o v, pr b o = some v → A.cell? ⟨b, o, none⟩ = some v → B.cell? ⟨b, o, none⟩ = some v
theorem KeepsProt.of {c' : Ctx} {H : zb} {w w' : World} {pr : Prot} (h : Prot.le pr c'.prot) (hI : Inv base c' H w') : KeepsProt pr w w' := fun b o v hv _ => hI.prot b o v (h b o v hv)
theorem Inv.addFrozen {c : Ctx} {H : zb} {w : World} (hI : Inv base c H w) {b : Nat} {cur : Array Value} {ty : TypeId} {size : Nat} {y : PVal} (hb : w.heap[b]? = some (.cells cur ty (0, 0))) (hn : ¬ mC c b) (hpos : 0 < size) (hcur : cur.size = size)
  (hl : y.cells.length = size) (hk : ∀ x ∈ y.cells, x.isCell = true) (hr : ∀ (j : Nat) x, y.cells[j]? = some x → ∃ v, cur[j]? = some v ∧ PRep c.prot x v) :
  Inv base ⟨c.locs ++ [⟨0, size, some (b, 1), false⟩], c.prot⟩ (H ++ [⟨size, 0, true, [.p y], ty⟩]) w := by
 have split : ∀ {k : Nat} {l : Loc}, (c.locs ++ [⟨0, size, some (b, 1), false⟩])[k]? = some l → (k < c.locs.length ∧ c.locs[k]? = some l) ∨ (k = c.locs.length ∧ l = ⟨0, size, some (b, 1), false⟩) := by
  intro k l a
  by_cases hk : k < c.locs.length
  ·rw [List.getElem?_append_left hk] at a; exact .inl ⟨hk, a⟩
  ·have hk0 : k = c.locs.length := by have := (List.getElem?_eq_some_iff.1 a).1; simp at this; omega
   subst hk0
   simp at a
   exact .inr ⟨rfl, a.symm⟩
 have up : ∀ {x : AVal} {v : Value}, Rep c x v → Rep ⟨c.locs ++ [⟨0, size, some (b, 1), false⟩], c.prot⟩ x v := fun r => by
  have st : Step c ({ w with heap := #[] } : World) ⟨c.locs ++ [⟨0, size, some (b, 1), false⟩], c.prot⟩ ({ w with heap := #[] } : World) :=
   ⟨fun _ _ _ h => h, fun k l h => ⟨l, (List.getElem?_append_left (List.getElem?_eq_some_iff.1 h).1).trans h, Nat.le_refl _, fun _ => rfl⟩, rfl, rfl, rfl, Nat.le_refl _, fun _ _ _ => rfl, fun q _ => .inr (Nat.zero_le _), fun _ _ _ h => .inl h⟩
  exact r.step st
 refine ⟨hI.base, by simp [hI.len], hI.prot, fun k e l h1 h2 => ?_, fun k k' l l' g cp cp' h1 h2 h3 h4 => ?_⟩
 ·rcases split h2 with ⟨hk, h⟩ | ⟨rfl, rfl⟩
  ·rw [List.getElem?_append_left (by rw [← hI.len]; exact hk)] at h1
   have ok := hI.ent k e l h1 h
   refine ⟨ok.ver, ok.size, ok.pos, ok.cells, ok.nowhere, ok.typed, ok.mapped, fun g cap hp hm => ?_⟩
   obtain ⟨cur', ty', a1, a2, a3, a4, a5, a6⟩ := ok.there g cap hp hm
   exact ⟨cur', ty', a1, a2, a3, a4, fun i x j z hx hz => let ⟨v, p, q⟩ := a5 i x j z hx hz; ⟨v, p, up q⟩, a6⟩
  ·rw [hI.len, List.getElem?_append_right (Nat.le_refl _), Nat.sub_self] at h1
   simp at h1
   subst h1
   refine ⟨rfl, rfl, nP hpos, fun _ x hx => ?_, by simp, fun g cp cur' ty' fr' hl' hh => ?_, (fun _ _ _ hm => by cases hm), fun g cp hl' _ => ?_⟩
   ·simp at hx
    subst hx
    refine ⟨by simpa [AVal.cells] using hl, fun z hz => ?_⟩
    obtain ⟨u, hu, rfl⟩ := List.mem_map.1 hz
    exact hk u hu
   ·simp at hl'
    obtain ⟨rfl, rfl⟩ := hl'
    rw [hb] at hh
    cases hh; rfl
   ·simp at hl'
    obtain ⟨rfl, rfl⟩ := hl'
    refine ⟨cur, ty, hb, by simp [hcur], by unfold maxLen; omega, by simp, fun i x j z hx hz => ?_, fun o v ho => ⟨rfl, ?_⟩⟩
    ·cases i with
     | zero =>
      simp at hx; subst hx
      simp only [AVal.cells, List.getElem?_map, Option.map_eq_some_iff] at hz
      obtain ⟨u, hu, rfl⟩ := hz
      obtain ⟨v, h1, h2⟩ := hr j u hu
      exact ⟨v, by simpa using h1, .p _ _ h2⟩
     | succ i => simp at hx
    ·have h0 := hI.prot b o v ho
     rw [cell_of_row w b o cur ty (0, 0) hb] at h0
     have := (Array.getElem?_eq_some_iff.1 h0).1
     simp
     omega
 ·rcases split h1 with ⟨_, a⟩ | ⟨rfl, rfl⟩ <;> rcases split h2 with ⟨_, d⟩ | ⟨rfl, rfl⟩
  ·exact hI.inj k k' l l' g cp cp' a d h3 h4
  ·simp at h4
   obtain ⟨rfl, _⟩ := h4
   exact absurd ⟨k, l, cp, a, h3⟩ hn
  ·simp at h3
   obtain ⟨rfl, _⟩ := h3
   exact absurd ⟨k', l', cp', d, h4⟩ hn
  ·rfl
theorem xq {T : Tab} (hT : TabOk P base T) (hg : qK base gl) {g : Operand} {ps : Array Tmp} {assign body : Code} {Q : Exit → Act → World → Prop} {c : Ctx} {H : zb} {w : World} {a : Act} (hI : Inv base c H w)
  {gf : FuncId} {lb : Array Value} (hgv : a.eval g = .func (.func gf) #[] lb) (eg : ∀ args w, (callFunc gf args).run P w = .ok (.enter gf args) w)
  {α : Type} {encs : α → Array Value} (hps : ∀ x, (encs x).size = ps.size) {S : List α → Prop} {N m : Nat} (hseq : SeqStopsK Fence.wide m P gf lb encs (KeepsProt c.prot) S (fun _ => True) N w)
  {p size : Nat} {ty : TypeId} (hpos : 0 < size) (vx : α → List Value) (yx : α → PVal) (hvx : ∀ x, (vx x).length = size) (hyl : ∀ x, (yx x).cells.length = size) (hyk : ∀ x, ∀ z ∈ (yx x).cells, z.isCell = true)
  (hyv : ∀ x (j : Nat) z, (yx x).cells[j]? = some z → ∃ v, (vx x)[j]? = some v ∧ PRep c.prot z v)
  (frx : α → AFr) (a₁ : α → Act) (hax : ∀ x, Sim n c (frx x) (a₁ x) ∧ (a₁ x).defers = [])
  (hassign : ∀ (l : Nat) (x : α) (W : World) (K : Act → World → Prop), K ((a₁ x).put (some p) (.pointer (some ⟨W.heap.size, 0, none⟩))) (W.alloc (.cells (vx x).toArray ty)) →
   assign.wpIn (WR l) (m + 1 - 1 - 1) P (Exit.then K (fun _ _ _ => False)) { tmps := (ps.zip (encs x)).foldl (fun t (p, v) => t.setIfInBounds p v) a.tmps, defers := [] } W)
  (H0 : List α → zb) (h0 : H0 [] = H) (hlen : ∀ pre, (H0 pre).length = H.length) (hver : ∀ pre (k : Nat) e, (H0 pre)[k]? = some e → ∃ e0, H[k]? = some e0 ∧ e0.ver = e.ver ∧ e0.size = e.size) (hbel : ∀ pre, yb H.length (H0 pre)) (hpl : qR body = true)
  (hb : ∀ pre x, pre.length < N → vc T (zJ P gl n body) (fun e _ H'' => e = .normal ∧ ∃ E, H'' = H0 (pre ++ [x]) ++ E) (put (frx x) (some p) (.optr H.length 0 0 0)) (H0 pre ++ [⟨size, 0, true, [.p (yx x)], ty⟩]))
  (hq : ∀ xs D c' w', S xs → w.heap.size ≤ D → Step c w c' w' → Inv base c' (H0 xs) w' → w'.heap[D]? = some (.deferred (some [])) → Q .normal { a with defers := { target := .collected D, args := #[] } :: a.defers } w') :
  (Code.rangeFunc g ps assign body).wp P Q a w := by
 have hmo : ∀ pre, MapsOld H (H0 pre) := fun pre k e he hz => by
  obtain ⟨e0, h1, h2, h3⟩ := hver pre k e he
  exact ⟨e0, h1, by rw [h3]; exact hz, h2⟩
 rw [← wpIn_wide (n := m + 1)]
 refine wpIn_rangeFunc_ownH (F := Fence.wide) (n := m + 1) rfl (by omega) hgv trivial eg (encs := encs) (Kp := KeepsProt c.prot) (S := S) (Sp := fun _ => True) (N := N) (w0 := w) hseq
  (fun h k b o v hv hc => k b o v hv (h b o v hv hc)) (fun W l o o' hl ho hc hw b off v hv hcell => ?_) (Below.refl _ _) hps
  (fun pre W => ∃ pr, Inv base ⟨c.locs, pr⟩ (H0 pre) W ∧ Step c w ⟨c.locs, pr⟩ W) (fun _ _ _ => False) (fun s A B row hs hgr hr => ?_) (fun _ _ _ _ _ hs _ _ => hs) ⟨c.prot, by rw [h0]; exact hI, .refl _ _⟩
  (fun x a' W => ∃ b, w.heap.size ≤ b ∧ W.heap[b]? = some (.cells (vx x).toArray ty (0, 0)) ∧ a' = (a₁ x).put (some p) (.pointer (some ⟨b, 0, none⟩))) (fun x a' s A B row hs hgr hr => ?_)
  (fun l pre x W K hi hK => ?_) (fun l pre x a' W hl _ hi hA hlt => ?_) (fun D xs W hD hS hi hK => ?_) (fun D cc pre W _ _ h _ => h.elim)
 ·have hbl : b ≠ l := fun e => by
   subst e
   unfold World.cell? at hcell
   simp only [ho] at hcell
   cases o <;> simp [Obj.isCells] at hc hcell
  rw [World.cell?_of_block (a := ⟨b, off, none⟩)]
  ·exact hcell
  ·first | exact World.putObj_heap_other hbl | exact World.putObj_heap_other (Ne.symm hbl)
 ·obtain ⟨pr, iv, st⟩ := hs
  exact ⟨pr, iv.other hgr (fun r e => (hr r e).2) (fun r k l cap e h1 h2 h3 => by
   have := (hmo _).low hI st iv h1 h2 h3
   have := (hr r e).1
   omega), st.other hgr (fun r e => (hr r e).1)⟩
 ·obtain ⟨b, h1, h2, h3⟩ := hs
  exact ⟨b, h1, (grownBy_keeps_cells hgr (fun r e => (hr r e).2) h2 rfl).trans h2, h3⟩
 ·obtain ⟨pr, iv, st⟩ := hi
  have gw : Grew W (W.alloc (.cells (vx x).toArray ty)) := (Grew.refl W).alloc _
  have s1 := gw.step ⟨c.locs, pr⟩
  exact hassign l x W K (hK _ _ (s1.from iv (fun k l g cap h1 h2 h3 => (hmo _).low hI st iv h1 h2 h3)) (KeepsProt.of (c' := ⟨c.locs, pr⟩) st.prot (iv.grew gw)) ⟨pr, iv.grew gw, st.trans s1⟩
   ⟨W.heap.size, st.size, heap_alloc_new _ _, rfl⟩)
 ·obtain ⟨pr, iv, st⟩ := hi
  obtain ⟨b, hb1, hb2, rfl⟩ := hA
  have hnl : ¬ mC (⟨c.locs, pr⟩ : Ctx) b := fun ⟨k, l, cap, h1, h2⟩ => by
   have := hI.loced_lt ⟨k, l, cap, h1, h2⟩
   omega
  have iv2 := iv.addFrozen hb2 hnl hpos (by simpa using hvx x) (hyl x) (hyk x) (fun j z hz => by
   obtain ⟨v, h1, h2⟩ := hyv x j z hz
   exact ⟨v, by simpa using h1, h2.mono st.prot⟩)
  have hclen : c.locs.length = H.length := hI.len
  have st2 : Step c w ⟨c.locs ++ [⟨0, size, some (b, 1), false⟩], pr⟩ W := by
   refine ⟨st.prot, fun k l h => ⟨l, (List.getElem?_append_left (List.getElem?_eq_some_iff.1 h).1).trans h, Nat.le_refl _, fun _ => rfl⟩, st.os, st.tape, st.output, st.size, st.blk, fun q hq => ?_, st.newprot⟩
   obtain ⟨k, l, cp, h1, h2⟩ := hq
   by_cases hk : k < c.locs.length
   ·rw [List.getElem?_append_left hk] at h1
    exact .inl ⟨k, l, cp, h1, h2⟩
   ·have hk0 : k = c.locs.length := by have := (List.getElem?_eq_some_iff.1 h1).1; simp at this; omega
    subst hk0
    simp at h1
    subst h1
    simp at h2
    obtain ⟨rfl, _⟩ := h2
    exact .inr hb1
  obtain ⟨hsim, hdef⟩ := hax x
  have hsim2 : Sim n ⟨c.locs ++ [⟨0, size, some (b, 1), false⟩], pr⟩ (put (frx x) (some p) (.optr H.length 0 0 0)) ((a₁ x).put (some p) (.pointer (some ⟨b, 0, none⟩))) :=
   (hsim.step st2).put (.optr _ _ _ _ ⟨0, size, some (b, 1), false⟩ _ (by rw [← hclen]; simp) (Nat.le_refl _) (fun _ => ⟨rfl, b, 1, rfl, by simp⟩) ⟨_, rfl⟩) (some p)
  refine wpIn_mono (vN hT hg body _ _ _ W _ _ hpl iv2 hsim2 hdef (hb pre x hlt)) fun e a' w' hq => ?_
  obtain ⟨le, fr', H2, c2, ⟨rfl, E, rfl⟩, he, s2, i2, _⟩ := hq
  subst he
  have hlow : ∀ (k : Nat) l g cap, (c.locs ++ [(⟨0, size, some (b, 1), false⟩ : Loc)])[k]? = some l → l.mp = true → l.place = some (g, cap) → g < w.heap.size := fun k l g cap h1 h2 h3 => by
   by_cases hk : k < c.locs.length
   ·rw [List.getElem?_append_left hk] at h1
    exact (hmo pre).low hI st iv h1 h2 h3
   ·have hk0 : k = c.locs.length := by have := (List.getElem?_eq_some_iff.1 h1).1; simp at this; omega
    subst hk0
    simp at h1
    subst h1
    cases h2
  have hlocs : c2.locs.take (H0 (pre ++ [x])).length = c.locs := by
   apply List.ext_getElem?
   intro k
   rw [hlen]
   by_cases hk : k < H.length
   ·obtain ⟨l, hl⟩ : ∃ l, c.locs[k]? = some l := ⟨_, List.getElem?_eq_getElem (by omega)⟩
    have hkc : k < c.locs.length := by omega
    obtain ⟨l', h1, h2, h3⟩ := s2.locs k l ((List.getElem?_append_left hkc).trans hl)
    obtain ⟨e1, he1, ok1⟩ := i2.entOf h1
    rw [List.getElem?_append_left (by rw [hlen]; exact hk)] at he1
    obtain ⟨e0, he0, hv0, _⟩ := hver _ k e1 he1
    have ok0 := hI.ent k e0 l he0 hl
    have : l' = l := h3 (by rw [ok1.ver, ← hv0, ok0.ver])
    subst this
    rw [List.getElem?_take, if_pos hk, h1, hl]
   ·rw [List.getElem?_take, if_neg hk, List.getElem?_eq_none (by omega)]
  have i3 := i2.dropTail (by rw [hlen]; exact hbel _)
  rw [hlocs] at i3
  have st3 := st2.trans s2
  refine ⟨s2.from iv2 hlow, KeepsProt.of st3.prot i2, c2.prot, i3, ⟨st3.prot, fun k l hl => ⟨l, hl, Nat.le_refl _, fun _ => rfl⟩, st3.os, st3.tape, st3.output, st3.size, st3.blk, fun q hq => .inl hq, st3.newprot⟩⟩
 ·obtain ⟨pr, iv, st⟩ := hi
  exact hq xs D _ W hS hD st iv hK
end
end Go.Abs

namespace Go.Abs
open Go.RowKit
variable {P : Program} {base : Prot}
def pC : Code → Code
 | .seq x _ => x
 | c => c
def kX : Code → Code
 | .seq _ y => y
 | c => c
def dk : LCode → LCode
 | .seq x _ => x
 | c => c
def kS : LCode → LCode
 | .seq _ y => y
 | c => c
def seqs : List Code → Code → Code
 | [], r => r
 | x :: xs, r => .seq x (seqs xs r)
def vcs (T : Tab) : List LCode → (AFr → zb → Prop) → AFr → zb → Prop
 | [], K, fr, H => K fr H
 | x :: xs, K, fr, H => vc T x (fun e fr' H' => e = .normal ∧ vcs T xs K fr' H') fr H
section
variable {gl : Nat → AVal} {n : Nat}
theorem rL {ds : List Deferred} {T : Tab} (hm : P.follows .mixedOrders = true) (hT : TabOk P base T) (hg : qK base gl) {rest : Code} {R : Exit → Act → World → Prop} {K : AFr → zb → Prop} : ∀ (xs : List Code) (c : Ctx) (H : zb) (w : World) (fr : AFr) (a : Act),
  Inv base c H w → Sim n c fr a → a.defers = ds → vcs T (xs.map (zJ P gl n)) K fr H →
  (∀ fr' H' c' w' a', K fr' H' → Step c w c' w' → Inv base c' H' w' → Sim n c' fr' a' → a'.defers = ds → rest.wp P R a' w') → (seqs xs rest).wp P R a w
 | [], c, H, w, fr, a, hI, hs, hd, h, hr => hr _ _ _ _ _ h (.refl _ _) hI hs hd
 | x :: xs, c, H, w, fr, a, hI, hs, hd, h, hr => by
  simp only [List.map_cons, vcs] at h
  refine wp_seq (wp_mono (dU hm hT hg x _ c H w fr a hI hs hd h) fun e a' w' hq => ?_)
  obtain ⟨le, fr', H', c', ⟨rfl, q⟩, he, s', i', m', d'⟩ := hq
  subst he
  exact rL hm hT hg xs c' H' w' fr' a' i' m' d' q fun fr2 H2 c2 w2 a2 k s2 => hr fr2 H2 c2 w2 a2 k (s'.trans s2)
theorem sim_init {args : List AVal} {c : Ctx} {vs : List Value} (hr : RepL c args vs) (hn : args.length ≤ n) : Sim n c (zV args) { tmps := vs.toArray ++ Array.replicate (n - vs.toArray.size) undef, defers := [] } := by
 have hlen : vs.length = args.length := hr.1
 refine ⟨by simp; omega, fun i hi => ?_⟩
 unfold zV
 by_cases hia : i < args.length
 ·have hiv : i < vs.length := by omega
  have : (vs.toArray ++ Array.replicate (n - vs.toArray.size) undef).getD i undef = vs[i] := by
   rw [Array.getD_eq_getD_getElem?, Array.getElem?_append_left (by simpa using hiv)]
   simp [hiv]
  rw [this, List.getElem?_eq_getElem hia]
  exact hr.2 i _ _ (by simp [hia]) (by simp [hiv])
 ·have : (vs.toArray ++ Array.replicate (n - vs.toArray.size) undef).getD i undef = undef := by
   rw [Array.getD_eq_getD_getElem?, Array.getElem?_append_right (by simp; omega), Array.getElem?_replicate]
   split <;> rfl
  rw [this, List.getElem?_eq_none (by omega)]
  exact .p _ _ (.tup [] [] rfl (by simp))
theorem ao {T : Tab} {fn : Func} {rs : List LRes} (hrs : zP (jV P fn.ntmps) fn.results.toList = some rs) {fr : AFr} {H : zb} {c : Ctx} {w : World} {a : Act} (hI : Inv base c H w) (hs : Sim fn.ntmps c fr a) {r : AVal} (hf : finish T rs fr H = some r) :
  ∃ v, (results fn a.tmps).run P w = .ok v w ∧ Rep c r v := by
 unfold finish at hf
 cases hxs : zP (qT T fr H) rs with
 | none => rw [hxs] at hf; cases hf
 | some xs =>
  rw [hxs] at hf
  obtain ⟨us, q1, q2⟩ := dM hI hs fn.results.toList rs xs hrs hxs
  have hres : (results fn a.tmps).run P w = .ok (if h : us.toArray.size = 1 then us.toArray[0] else .tuple us.toArray) w := by
   unfold results
   have : (fn.results.mapM (dI a)).run P w = .ok us.toArray w := by
    rw [Array.mapM_eq_mapM_toList]
    simp [q1]
   show ((fn.results.mapM (dI a)) >>= _).run P w = _
   rw [Sem.run_bind, this]
   rfl
  refine ⟨_, hres, ?_⟩
  have hus := q2.1
  match xs, us, q2, hus, hf with
  | [x], [u], q2, _, hf => cases hf; simpa using q2.2 0 _ u rfl rfl
  | [], [], q2, _, hf => simp [j3] at hf; subst hf; exact .p _ _ (.tup [] [] rfl (by simp))
  | x :: y :: xs, u :: v :: us, q2, _, hf =>
   have : ¬ (u :: v :: us).toArray.size = 1 := by simp
   rw [dif_neg this]
   simp only at hf
   cases hps : j3 (x :: y :: xs) with
   | none => rw [hps] at hf; cases hf; exact .tup _ _ q2.1 q2.2
   | some ps =>
    rw [hps] at hf
    cases hf
    rw [jG hps] at q2
    refine .p _ _ (.tup ps _ (by have := q2.1; simpa using this) (fun j a b h1 h2 => ?_))
    have := q2.2 j (.p a) b (by simp [h1]) h2
    cases this with
    | p _ _ h => exact h
theorem ci {T : Tab} (hm : P.follows .mixedOrders = true) (hT : TabOk P base T) (hg : qK base gl) {f : FuncId} {fn : Func} (hf : P.funcs[f]? = some fn) {pre : List Code} {r assign body tail : Code} {id : Nat} {g : Operand} {ps : Array Tmp}
  (hb : fn.body = some (seqs pre ((r.seq (.block id (.rangeFunc g ps assign body))).seq tail))) {rs : List LRes} (hrs : zP (jV P fn.ntmps) fn.results.toList = some rs) {args : List AVal} (hn : args.length ≤ fn.ntmps) {H : zb} {Q : AVal → zb → Prop}
  {c : Ctx} {w : World} {vs : List Value} (hI : Inv base c H w) (hr : RepL c args vs) (K : AFr → zb → Prop)
  (hpre : vcs T (pre.map (zJ P gl fn.ntmps)) (fun fr' H' => vc T (zJ P gl fn.ntmps r) (fun e fr2 H2 => e = .normal ∧ K fr2 H2) fr' H') (zV args) H)
  (hrange : ∀ fr' H' c' w' a', K fr' H' → Step c w c' w' → Inv base c' H' w' → Sim fn.ntmps c' fr' a' → a'.defers = [] →
   (Code.rangeFunc g ps assign body).wp P (fun e a2 w2 => e = .normal ∧ ∃ D fr2 H2 c2, a2.defers = [{ target := .collected D, args := #[] }] ∧ Step c' w' c2 w2 ∧ Inv base c2 H2 w2 ∧ Sim fn.ntmps c2 fr2 a2 ∧
    w2.heap[D]? = some (.deferred (some [])) ∧ w'.heap.size ≤ D ∧ vc T (zJ P gl fn.ntmps tail) (jI T rs Q) fr2 H2) a' w') :
  Calls P f vs.toArray w fun e w' => ∃ v r H' c', e = .returned v ∧ Q r H' ∧ Step c w c' w' ∧ Inv base c' H' w' ∧ Rep c' r v := by
 rw [← callsIn_wide (n := 1)]
 refine callsIn_of_wp_marks hf hb trivial ?_ rfl
 rw [wpIn_wide]
 refine rL hm hT hg pre c H w _ _ hI (sim_init hr hn) rfl hpre fun fr1 H1 c1 w1 a1 h1 s1 i1 m1 d1 => ?_
 refine wp_seq (wp_seq (wp_mono (dU hm hT hg r _ c1 H1 w1 fr1 a1 i1 m1 d1 h1) fun e a2 w2 hq => ?_))
 obtain ⟨le, fr2, H2, c2, ⟨rfl, k2⟩, he, s2, i2, m2, d2⟩ := hq
 subst he
 refine wp_block (wp_mono (hrange fr2 H2 c2 w2 a2 k2 (s1.trans s2) i2 m2 d2) fun e a3 w3 hq => ?_)
 obtain ⟨rfl, D, fr3, H3, c3, d3, s3, i3, m3, hD, hDw, h3⟩ := hq
 refine wp_mono (dU hm hT hg tail _ c3 H3 w3 fr3 a3 i3 m3 d3 h3) fun e a4 w4 hq => ?_
 obtain ⟨le, fr4, H4, c4, q, he, s4, i4, m4, d4⟩ := hq
 have hD4 : w4.heap[D]? = some (.deferred (some [])) := s4.obj i3 hD rfl (fun _ _ h => by cases h)
 have hgr := grownBy_putObj' w4 D (.deferred none)
 have hrow : ∀ r, some D = some r → ∃ o : Obj, w4.heap[r]? = some o ∧ o.isCells = false := fun r e => by cases e; exact ⟨_, hD4, rfl⟩
 have fin : (match finish T rs fr4 H4 with | some r => Q r H4 | none => False) → LeavesInM Fence.wide 1 P fn a4.tmps (fun e w' => ∃ v r H' c', e = .returned v ∧ Q r H' ∧ Step c w c' w' ∧ Inv base c' H' w' ∧ Rep c' r v) a4.defers .returning w4 := by
  intro hq0
  cases hfin : finish T rs fr4 H4 with
  | none => rw [hfin] at hq0; exact hq0.elim
  | some r =>
   rw [hfin] at hq0
   have i5 := i4.other hgr hrow (fun r k l cap e h1 h2 h3 => by cases e; exact Inv.notMap i4 hD4 (fun _ _ h => by cases h) h1 h2 h3)
   obtain ⟨v, hv, hrep⟩ := ao hrs i5 m4 hfin
   rw [d4]
   refine ⟨by simp, .inl ⟨_, _, rfl, run_takeDeferred hD4, ?_⟩⟩
   have st : Step c w c4 (w4.putObj D (.deferred none)) := (((s1.trans s2).trans s3).trans s4).other hgr (fun r e => by
    cases e
    exact Nat.le_trans (s1.trans s2).size hDw)
   exact ⟨v, hv, v, r, H4, c4, rfl, hq0, st, i5, hrep⟩
 subst he
 cases le with
 | normal => exact fin q
 | exit id => exact q.elim
 | ret => exact fin q
end
theorem tf {l m id : Nat} {o1 o2 : Oper} {p q : Nat} {ty : TypeId} {d : TypeDesc} {i : TypeInfo} {z : Value} {vs : List Value} (h1 : o1.op = .alloc ty) (h1d : o1.dst = some p) (h1g : o1.guard = none) (h2 : o2.op = .store ty (.tmp p) (.tmp q)) (h2d : o2.dst = none) (h2g : o2.guard = none)
  (hd : P.underlying ty = some d) (hi : P.info? ty = some i) (hz : i.zero = some z) (hzl : z.cells.size = zh P ty) (hl : vs.length = zh P ty) (hone : ∀ v ∈ vs, v.oneCell' = true) {a : Act} (hp : p < a.tmps.size) (hpq : p ≠ q) (hq : a.tmps.getD q undef = .agg vs.toArray)
  {W : World} {K : Act → World → Prop} (hK : K (a.put (some p) (.pointer (some ⟨W.heap.size, 0, none⟩))) (W.alloc (.cells vs.toArray ty))) :
  (Code.region id #[o1, o2] false).wpIn (WR l) m P (Exit.then K (fun _ _ _ => False)) a W := by
 have e1 : (execOp a.eval o1).run P W = .ok (.value (.pointer (some ⟨W.heap.size, 0, none⟩))) (W.alloc (.cells z.cells ty)) := by
  obtain ⟨dst, op, t, pos, after, guard⟩ := o1
  simp only at h1
  subst h1
  simp [execOp, Instr.alloc, zeroValue, typeInfo, hi, hz, newVar, newRow, newObj]
  rfl
 have hnew : (W.alloc (.cells z.cells ty)).heap[W.heap.size]? = some (.cells z.cells ty (0, 0)) := heap_alloc_new _ _
 obtain ⟨a2, ha2⟩ : ∃ a2, a2 = a.put (some p) (.pointer (some ⟨W.heap.size, 0, none⟩)) := ⟨_, rfl⟩
 have g1 : a2.eval (.tmp p) = .pointer (some ⟨W.heap.size, 0, none⟩) := by
  subst ha2
  show (a.tmps.setIfInBounds p _).getD p undef = _
  simp [Array.getD, hp]
 have g2 : a2.eval (.tmp q) = .agg vs.toArray := by
  subst ha2
  show (a.tmps.setIfInBounds p _).getD q undef = _
  rw [← hq]
  simp only [Array.getD_eq_getD_getElem?, Array.getElem?_setIfInBounds_ne hpq]
 have hrun := run_storeCells_at P W.heap.size 0 ty vs 0 z.cells (W.alloc (.cells z.cells ty)) hnew (by omega) hone
 simp only [Nat.add_zero, List.take_zero, List.nil_append, Nat.zero_add] at hrun
 have hdrop : List.drop vs.length z.cells.toList = [] := List.drop_eq_nil_of_le (by simp; omega)
 rw [hdrop, List.append_nil] at hrun
 have hw : (W.alloc (.cells z.cells ty)).setRow W.heap.size vs.toArray = W.alloc (.cells vs.toArray ty) := by
  simp only [World.setRow, World.alloc]
  congr 1
  apply Array.ext_getElem?
  intro j
  rw [Array.getElem?_modify]
  by_cases hj : W.heap.size = j
  ·subst hj
   simp
  ·rw [if_neg hj, Array.getElem?_push, Array.getElem?_push, if_neg (Ne.symm hj), if_neg (Ne.symm hj)]
 rw [hw] at hrun
 have e2 : (execOp a2.eval o2).run P (W.alloc (.cells z.cells ty)) = .ok .skip (W.alloc (.cells vs.toArray ty)) := by
  obtain ⟨dst, op, t, pos, after, guard⟩ := o2
  simp only at h2
  subst h2
  have hvs : (Value.agg vs.toArray).cells.size = zh P ty := by simpa [Value.cells] using hl
  have : (Instr.storeAt ty (.pointer (some ⟨W.heap.size, 0, none⟩)) (.agg vs.toArray)).run P (W.alloc (.cells z.cells ty)) = .ok () (W.alloc (.cells vs.toArray ty)) := by
   simp only [Instr.storeAt, Instr.sureAddr, Sem.run_bind, Sem.run_pure, Result.andThen_ok, storeVar, qy hd, hvs]
   simp only [ne_eq, not_true, if_false]
   exact hrun
  simp [execOp, g1, g2, this]
 refine wpIn_region (bC (fun i o ho cc e => ?_) (fun ⟨a, w, h⟩ => h) _ _ _ ?_)
 ·match i, ho with
  | 0, ho => simp at ho; subst ho; rw [h1] at e; cases e
  | 1, ho => simp at ho; subst ho; rw [h2] at e; cases e
  | (k + 2), ho => simp at ho
 ·show wpOps P #[o1, o2] _ (List.range 2) a W
  rw [show List.range 2 = [0, 1] from rfl]
  unfold wpOps
  simp only [List.getElem?_toArray, List.getElem?_cons_zero]
  rw [if_pos (by simp [Region.wanted, h1g])]
  left
  unfold Oper.wp
  rw [e1]
  show wpOps P #[o1, o2] _ [1] (a.put o1.dst _) _
  rw [h1d, ← ha2]
  unfold wpOps
  simp only [List.getElem?_toArray, List.getElem?_cons_succ, List.getElem?_cons_zero]
  rw [if_pos (by simp [Region.wanted, h2g])]
  left
  unfold Oper.wp
  rw [e2]
  simp only [Oper.upon, h2d]
  unfold wpOps
  subst ha2
  exact hK
end Go.Abs
