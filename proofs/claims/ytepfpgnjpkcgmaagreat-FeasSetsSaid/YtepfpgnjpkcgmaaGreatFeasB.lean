/-
  Sets of spans over ends: the plain law. No conditions beyond the lemmas' own hypotheses. Spans as pure values; what is a set, what is in one, the same, on both sides. No conditions beyond the lemmas' own hypotheses.
-/
import Derived.Test.YtepfpgnjpkcgmaaGreatAtomD
import Derived.Test.YtepfpgnjpkcgmaaGreatFeasL
set_option linter.unusedSimpArgs false
set_option linter.unnecessarySimpa false
set_option linter.unusedVariables false
set_option linter.constructorNameAsVariable false

/-
 Sets of spans over ends: the plain law.
-/
namespace Go.Proofs.YtepfpgnjpkcgmaaGreat
inductive EC where
 | lo
 | at (q : Rat) (o : Bool)
 | hi
deriving DecidableEq
def EC.le : EC → EC → Bool
 | .lo, _ => true
 | _, .hi => true
 | .at p a, .at q b => decide (p < q) || decide (p = q) && (!a || b)
 | _, _ => false
instance : LE EC := ⟨fun a b => EC.le a b = true⟩
instance : LT EC := ⟨fun a b => ¬ b ≤ a⟩
instance (a b : EC) : Decidable (a ≤ b) := inferInstanceAs (Decidable (EC.le a b = true))
instance (a b : EC) : Decidable (a < b) := inferInstanceAs (Decidable (¬ b ≤ a))
theorem EC.le_iff (a b : EC) : a ≤ b ↔ EC.le a b = true := Iff.rfl
instance : Std.IsLinearOrder EC where
 le_refl a := by
  rw [EC.le_iff]
  cases a <;> simp [EC.le]
 le_trans a b c h1 h2 := by
  rw [EC.le_iff] at *
  cases a <;> cases b <;> cases c <;> simp_all [EC.le] <;> grind
 le_antisymm a b h1 h2 := by
  rw [EC.le_iff] at *
  cases a <;> cases b <;> simp_all [EC.le]
  rename_i q o q' o'
  cases o <;> cases o' <;> grind
 le_total a b := by
  rw [EC.le_iff, EC.le_iff]
  cases a <;> cases b <;> simp [EC.le]
  rename_i q o q' o'
  cases o <;> cases o' <;> grind
instance : Std.LawfulOrderLT EC where
 lt_iff a b := by
  show ¬ b ≤ a ↔ a ≤ b ∧ ¬ b ≤ a
  have := (inferInstance : Std.IsLinearOrder EC).le_total a b
  grind
theorem EC.lo_le (a : EC) : .lo ≤ a := by rw [EC.le_iff]; cases a <;> rfl
theorem EC.le_hi (a : EC) : a ≤ .hi := by rw [EC.le_iff]; cases a <;> rfl
structure ES where
 l : EC
 h : EC
deriving DecidableEq
def Ab (a : EC) : List ES → Prop
 | [] => True
 | x :: r => a < x.l ∧ x.l < x.h ∧ Ab x.h r
def Ok : List ES → Prop
 | [] => True
 | x :: r => x.l < x.h ∧ Ab x.h r
def mem (c : EC) : List ES → Prop
 | [] => False
 | x :: r => (x.l ≤ c ∧ c < x.h) ∨ mem c r
theorem mem_above {a c : EC} : ∀ {s : List ES}, Ab a s → mem c s → a < c
 | x :: r, h, hm => by
  obtain ⟨h1, h2, h3⟩ := h
  rcases hm with hm | hm
  ·grind
  ·have := mem_above h3 hm; grind
theorem Ab.mono {a b : EC} : ∀ {s : List ES}, Ab b s → a ≤ b → Ab a s
 | [], _, _ => trivial
 | x :: r, h, hab => by obtain ⟨h1, h2, h3⟩ := h; exact ⟨by grind, h2, h3⟩
theorem Ab.ok {a : EC} {s : List ES} (h : Ab a s) : Ok s := by
 cases s with
 | nil => trivial
 | cons x r => exact h.2
theorem uniq : ∀ {s u : List ES}, Ok s → Ok u → (∀ c, mem c s ↔ mem c u) → s = u
 | [], [], _, _, _ => rfl
 | [], b :: u, _, hu, h => by
  have := (h b.l).2 (.inl ⟨by grind, hu.1⟩)
  exact this.elim
 | a :: s, [], hs, _, h => by
  have := (h a.l).1 (.inl ⟨by grind, hs.1⟩)
  exact this.elim
 | a :: s, b :: u, hs, hu, h => by
  obtain ⟨ha, hs⟩ := hs
  obtain ⟨hb, hu⟩ := hu
  have e1 : a.l = b.l := by
   have h1 := (h a.l).1 (.inl ⟨by grind, ha⟩)
   have h2 := (h b.l).2 (.inl ⟨by grind, hb⟩)
   rcases h1 with h1 | h1
   ·rcases h2 with h2 | h2
    ·grind
    ·have := mem_above hs h2; grind
   ·have := mem_above hu h1
    rcases h2 with h2 | h2
    ·grind
    ·have := mem_above hs h2; grind
  have e2 : a.h = b.h := by
   by_cases h1 : a.h < b.h
   ·have h2 := (h a.h).2 (.inl ⟨by grind, h1⟩)
    rcases h2 with h2 | h2
    ·grind
    ·have := mem_above hs h2; grind
   ·by_cases h3 : b.h < a.h
    ·have h2 := (h b.h).1 (.inl ⟨by grind, h3⟩)
     rcases h2 with h2 | h2
     ·grind
     ·have := mem_above hu h2; grind
    ·grind
  have e3 : a = b := by cases a; cases b; simp_all
  subst e3
  rw [uniq hs.ok hu.ok fun c => ?_]
  constructor
  ·intro hm
   have hc := mem_above hs hm
   rcases (h c).1 (.inr hm) with h2 | h2
   ·grind
   ·exact h2
  ·intro hm
   have hc := mem_above hu hm
   rcases (h c).2 (.inr hm) with h2 | h2
   ·grind
   ·exact h2
def gapsE (l : EC) : List ES → List ES
 | [] => if l < .hi then [⟨l, .hi⟩] else []
 | x :: r => if l < x.l then ⟨l, x.l⟩ :: gapsE x.h r else gapsE x.h r
theorem mem_gaps {c : EC} (hc : c < .hi) : ∀ {s : List ES} {l : EC}, (s = [] ∨ ∃ a, a ≤ l ∧ True) → (∀ x r, s = x :: r → l ≤ x.l) → Ok s → (mem c (gapsE l s) ↔ l ≤ c ∧ ¬ mem c s)
 | [], l, _, _, _ => by
  unfold gapsE
  split
  ·simp [mem]; grind
  ·have := EC.le_hi l; simp [mem]; grind
 | x :: r, l, _, hl, hs => by
  have hl := hl x r rfl
  obtain ⟨h1, h2⟩ := hs
  have ih := mem_gaps hc (s := r) (l := x.h) (.inr ⟨x.h, by grind, trivial⟩) (fun y r' e => by subst e; have := h2.1; grind) h2.ok
  have hab : mem c r → x.h < c := fun h => mem_above h2 h
  unfold gapsE
  by_cases hlt : l < x.l
  ·rw [if_pos hlt]
   simp only [mem, ih]
   grind
  ·rw [if_neg hlt, ih]
   simp only [mem]
   grind
theorem ok_gaps : ∀ {s : List ES} {l : EC}, (∀ x r, s = x :: r → l ≤ x.l) → Ok s → Ok (gapsE l s) ∧ ∀ a, a < l → Ab a (gapsE l s)
 | [], l, _, _ => by
  unfold gapsE
  split
  ·exact ⟨⟨by assumption, trivial⟩, fun a h => ⟨h, by assumption, trivial⟩⟩
  ·exact ⟨trivial, fun _ _ => trivial⟩
 | x :: r, l, hl, hs => by
  have hl := hl x r rfl
  obtain ⟨h1, h2⟩ := hs
  obtain ⟨i1, i2⟩ := ok_gaps (s := r) (l := x.h) (fun y r' e => by subst e; have := h2.1; grind) h2.ok
  unfold gapsE
  by_cases hlt : l < x.l
  ·rw [if_pos hlt]
   exact ⟨⟨hlt, i2 _ h1⟩, fun a h => ⟨h, hlt, i2 _ h1⟩⟩
  ·rw [if_neg hlt]
   exact ⟨i1, fun a h => i2 _ (by grind)⟩
def maxE (a b : EC) : EC := if a ≤ b then b else a
def minE (a b : EC) : EC := if a ≤ b then a else b
def bothE (a b : ES) : ES := ⟨maxE a.l b.l, minE a.h b.h⟩
def meetE (t : ES → ES → Bool) : List ES → List ES → List ES
 | [], _ => []
 | _ :: _, [] => []
 | a :: s, b :: u =>
  let rest := if a.h < b.h ∨ a.h = b.h ∧ t a b = true then meetE t s (b :: u) else meetE t (a :: s) u
  if (bothE a b).l < (bothE a b).h then bothE a b :: rest else rest
termination_by s u => s.length + u.length
theorem mem_meet {c : EC} {t : ES → ES → Bool} : ∀ (s u : List ES), Ok s → Ok u → (mem c (meetE t s u) ↔ mem c s ∧ mem c u)
 | [], _, _, _ => by simp [meetE, mem]
 | _ :: _, [], _, _ => by simp [meetE, mem]
 | a :: s, b :: u, ⟨ha, hs⟩, ⟨hb, hu⟩ => by
  have i1 := mem_meet (c := c) (t := t) s (b :: u) hs.ok ⟨hb, hu⟩
  have i2 := mem_meet (c := c) (t := t) (a :: s) u ⟨ha, hs⟩ hu.ok
  have m1 : mem c s → a.h < c := mem_above hs
  have m2 : mem c u → b.h < c := mem_above hu
  rw [meetE]
  have hx : ((bothE a b).l ≤ c ∧ c < (bothE a b).h) ↔ (a.l ≤ c ∧ c < a.h) ∧ (b.l ≤ c ∧ c < b.h) := by
   simp only [bothE, maxE, minE]; split <;> split <;> grind
  by_cases hn : (bothE a b).l < (bothE a b).h
  ·rw [if_pos hn]
   simp only [mem, hx]
   split
   ·rw [i1]; simp only [mem]; grind
   ·rw [i2]; simp only [mem]; grind
  ·rw [if_neg hn]
   have hx2 : ¬ ((a.l ≤ c ∧ c < a.h) ∧ (b.l ≤ c ∧ c < b.h)) := by rw [← hx]; grind
   simp only [mem]
   split
   ·rw [i1]; simp only [mem]; grind
   ·rw [i2]; simp only [mem]; grind
termination_by s u => s.length + u.length
theorem ab_meet {t : ES → ES → Bool} : ∀ (s u : List ES), Ok s → Ok u → Ok (meetE t s u) ∧ ∀ e, (Ab e s ∨ Ab e u) → Ab e (meetE t s u)
 | [], _, _, _ => by simp [meetE, Ok, Ab]
 | _ :: _, [], _, _ => by simp [meetE, Ok, Ab]
 | a :: s, b :: u, hs, hu => by
  obtain ⟨ha, hs⟩ := hs
  obtain ⟨hb, hu⟩ := hu
  obtain ⟨o1, i1⟩ := ab_meet (t := t) s (b :: u) hs.ok ⟨hb, hu⟩
  obtain ⟨o2, i2⟩ := ab_meet (t := t) (a :: s) u ⟨ha, hs⟩ hu.ok
  rw [meetE]
  have hl : (bothE a b).h ≤ a.h ∧ (bothE a b).h ≤ b.h ∧ a.l ≤ (bothE a b).l ∧ b.l ≤ (bothE a b).l := by
   simp only [bothE, maxE, minE]; split <;> split <;> grind
  have key : Ok (if a.h < b.h ∨ a.h = b.h ∧ t a b = true then meetE t s (b :: u) else meetE t (a :: s) u) ∧ Ab (bothE a b).h (if a.h < b.h ∨ a.h = b.h ∧ t a b = true then meetE t s (b :: u) else meetE t (a :: s) u) ∧
    ∀ e, (Ab e (a :: s) ∨ Ab e (b :: u)) → Ab e (if a.h < b.h ∨ a.h = b.h ∧ t a b = true then meetE t s (b :: u) else meetE t (a :: s) u) := by
   split
   ·refine ⟨o1, i1 _ (.inl (hs.mono (by grind))), fun e he => i1 e ?_⟩
    rcases he with he | he
    ·exact .inl (hs.mono (by have := he.1; have := he.2.1; grind))
    ·exact .inr he
   ·refine ⟨o2, i2 _ (.inr (hu.mono (by grind))), fun e he => i2 e ?_⟩
    rcases he with he | he
    ·exact .inl he
    ·exact .inr (hu.mono (by have := he.1; have := he.2.1; grind))
  obtain ⟨k1, k2, k3⟩ := key
  by_cases hn : (bothE a b).l < (bothE a b).h
  ·rw [if_pos hn]
   refine ⟨⟨hn, k2⟩, fun e he => ⟨?_, hn, k2⟩⟩
   rcases he with he | he
   ·have := he.1; grind
   ·have := he.1; grind
  ·rw [if_neg hn]
   exact ⟨k1, k3⟩
termination_by s u => s.length + u.length
end Go.Proofs.YtepfpgnjpkcgmaaGreat

/-
 Spans as pure values; what is one, on both sides.
-/
namespace Go.Proofs.YtepfpgnjpkcgmaaGreat
open Go Go.Abs Go.Limbs
variable {base : Prot}
set_option maxRecDepth 20000
attribute [local irreducible] vc
attribute [local simp] pureS touchV freezeL fuel shiftV u64 au
structure Sp where
 lo : Fr
 hi : Fr
 nl : Bool
 nh : Bool
 o1 : Bool
 o2 : Bool
def Sp.wf (x : Sp) : Prop := x.lo.wf ∧ x.hi.wf
def Sp.enc (x : Sp) : PVal := .agg [.bool x.lo.s, .lst (x.lo.n.map u64), .lst (x.lo.d.map u64), .bool x.hi.s, .lst (x.hi.n.map u64), .lst (x.hi.d.map u64), .bool x.nl, .bool x.nh, .bool x.o1, .bool x.o2]
def decSp : PVal → Option Sp
 | .agg [.bool s, .lst xs, .lst ys, .bool s', .lst xs', .lst ys', .bool a, .bool b, .bool c, .bool d] => match decU xs, decU ys, decU xs', decU ys' with | some l, some m, some l', some m' => some ⟨⟨s, l, m⟩, ⟨s', l', m'⟩, a, b, c, d⟩ | _, _, _, _ => none
 | _ => none
theorem decSp_enc {x : Sp} (h : x.wf) : decSp x.enc = some x := by simp only [decSp, Sp.enc, decU_map h.1.1, decU_map h.1.2, decU_map h.2.1, decU_map h.2.2]
theorem decSp_some {v : PVal} {x : Sp} (h : decSp v = some x) : v = x.enc ∧ x.wf := by
 unfold decSp at h
 split at h
 ·split at h
  ·rename_i l m l' m' h1 h2 h3 h4
   cases h
   obtain ⟨rfl, w1⟩ := decU_some h1
   obtain ⟨rfl, w2⟩ := decU_some h2
   obtain ⟨rfl, w3⟩ := decU_some h3
   obtain ⟨rfl, w4⟩ := decU_some h4
   exact ⟨rfl, ⟨w1, w2⟩, w3, w4⟩
  ·cases h
 ·cases h
def wfSs (l : List Sp) : Prop := ∀ x ∈ l, x.wf
def decSs : List PVal → Option (List Sp)
 | [] => some []
 | v :: r => match decSp v, decSs r with | some x, some l => some (x :: l) | _, _ => none
theorem decSs_enc : ∀ {l : List Sp}, wfSs l → decSs (l.map Sp.enc) = some l
 | [], _ => rfl
 | x :: r, h => by simp only [List.map_cons, decSs, decSp_enc (h x (by simp)), decSs_enc (l := r) (fun y hy => h y (by simp [hy]))]
theorem decSs_some : ∀ {vs : List PVal} {l : List Sp}, decSs vs = some l → vs = l.map Sp.enc ∧ wfSs l
 | [], l, h => by cases h; exact ⟨rfl, fun x hx => by cases hx⟩
 | v :: r, l, h => by
  unfold decSs at h
  split at h
  ·rename_i x m hx hm
   cases h
   obtain ⟨rfl, wx⟩ := decSp_some hx
   obtain ⟨rfl, wm⟩ := decSs_some hm
   refine ⟨rfl, fun y hy => ?_⟩
   rcases List.mem_cons.1 hy with rfl | hy
   ·exact wx
   ·exact wm y hy
  ·cases h
def p1 (g : Sp → PVal) : List PVal → Option PVal
 | [a] => match decSp a with | some x => some (g x) | none => none
 | _ => none
def p2 (g : Sp → Sp → PVal) : List PVal → Option PVal
 | [a, b] => match decSp a, decSp b with | some x, some y => some (g x y) | _, _ => none
 | _ => none
def px (g : Sp → Fr → PVal) : List PVal → Option PVal
 | [a, b] => match decSp a, decF b with | some x, some y => some (g x y) | _, _ => none
 | _ => none
theorem p1_at {g : Sp → PVal} {x : Sp} (h : x.wf) : p1 g [x.enc] = some (g x) := by simp only [p1, decSp_enc h]
theorem p2_at {g : Sp → Sp → PVal} {x y : Sp} (h : x.wf) (h2 : y.wf) : p2 g [x.enc, y.enc] = some (g x y) := by simp only [p2, decSp_enc h, decSp_enc h2]
theorem px_at {g : Sp → Fr → PVal} {x : Sp} {y : Fr} (h : x.wf) (h2 : y.wf) : px g [x.enc, y.enc] = some (g x y) := by simp only [px, decSp_enc h, decF_enc h2]
theorem p1_some {g : Sp → PVal} {args : List PVal} {z : PVal} (h : p1 g args = some z) : ∃ x : Sp, x.wf ∧ args = [x.enc] ∧ z = g x := by
 unfold p1 at h
 split at h
 ·split at h
  ·rename_i x hx
   obtain ⟨rfl, w⟩ := decSp_some hx
   cases h
   exact ⟨x, w, rfl, rfl⟩
  ·cases h
 ·cases h
theorem p2_some {g : Sp → Sp → PVal} {args : List PVal} {z : PVal} (h : p2 g args = some z) : ∃ x y : Sp, x.wf ∧ y.wf ∧ args = [x.enc, y.enc] ∧ z = g x y := by
 unfold p2 at h
 split at h
 ·split at h
  ·rename_i x y hx hy
   obtain ⟨rfl, w⟩ := decSp_some hx
   obtain ⟨rfl, w2⟩ := decSp_some hy
   cases h
   exact ⟨x, y, w, w2, rfl, rfl⟩
  ·cases h
 ·cases h
theorem px_some {g : Sp → Fr → PVal} {args : List PVal} {z : PVal} (h : px g args = some z) : ∃ (x : Sp) (y : Fr), x.wf ∧ y.wf ∧ args = [x.enc, y.enc] ∧ z = g x y := by
 unfold px at h
 split at h
 ·split at h
  ·rename_i x y hx hy
   obtain ⟨rfl, w⟩ := decSp_some hx
   obtain ⟨rfl, w2⟩ := decF_some hy
   cases h
   exact ⟨x, y, w, w2, rfl, rfl⟩
  ·cases h
 ·cases h
def boundS (a : Fr) (no o : Bool) : Bool := if no = true then decide (a = zF) && !o else a.ok
def someS (x : Sp) : Bool := x.nl || (x.nh || (decide (cmpF x.lo x.hi < 0) || (decide (cmpF x.lo x.hi = 0) && (!x.o1 && !x.o2))))
def apartS (a b : Sp) : Bool := !(a.nh || b.nl) && (decide (cmpF a.hi b.lo < 0) || (decide (cmpF a.hi b.lo = 0) && (a.o2 && b.o1)))
def sBound : List PVal → Option PVal
 | [a, .bool n, .bool o] => match decF a with | some x => some (.bool (boundS x n o)) | none => none
 | _ => none
theorem sBound_at {a : Fr} {n o : Bool} (h : a.wf) : sBound [a.enc, .bool n, .bool o] = some (.bool (boundS a n o)) := by simp only [sBound, decF_enc h]
def Tbd : Tab := (Tab.none.with 102 (pureS (f2 sameP))).with 89 (pureS (f1 boolF))
theorem Tbd_ok : TabOk Tryz.prog base Tbd := Tab.with_ok (Tab.with_ok Tab.none_ok lalike_ok) qvalid_ok
theorem Tbd_mu (f : FuncId) (a : List AVal) (H : Heap) : Tbd.mu f a H = none := (rfl)
theorem Tbd_fns : Tbd.fn 102 = (pureS (f2 sameP)) ∧ Tbd.fn 89 = (pureS (f1 boolF)) := ⟨rfl, rfl⟩
theorem fbound_ok : FnOk Tryz.prog base 130 (pureS sBound) := by
 refine pure_of_vc hmix Tbd_ok globNone low130 fun args z hs hf => ?_
 unfold sBound at hs
 split at hs
 case h_2 => cases hs
 rename_i a n o
 split at hs
 case h_2 => cases hs
 rename_i x hx
 obtain ⟨rfl, wx⟩ := decF_some hx
 cases hs
 refine ⟨by simp [lf130], ?_⟩
 have v1 : f2 sameP [x.enc, zF.enc] = some (.bool (decide (x = zF))) := by rw [f2_at wx wf_zF, sameP_dec]
 have v2 := vF wx
 unfold boundS
 obtain ⟨b, hb⟩ : ∃ b, b = decide (x = zF) := ⟨_, rfl⟩
 rw [← hb] at v1 ⊢
 simp only [Fr.enc, zF, List.map_nil] at v1 v2 ⊢
 cases n
 ·simp [lf130, v2, Tbd_mu, Tbd_fns]
 ·cases b <;> simp [lf130, v1, Tbd_mu, Tbd_fns]
def Tfsc : Tab := Tab.none.with 166 (pureS (f2 cmpP))
theorem Tfsc_ok : TabOk Tryz.prog base Tfsc := Tab.with_ok Tab.none_ok qcmp_ok
theorem Tfsc_mu (f : FuncId) (a : List AVal) (H : Heap) : Tfsc.mu f a H = none := (rfl)
theorem Tfsc_fns : Tfsc.fn 166 = (pureS (f2 cmpP)) := (rfl)
def someP (x : Sp) : PVal := .bool (someS x)
theorem fsome_ok : FnOk Tryz.prog base 131 (pureS (p1 someP)) := by
 refine pure_of_vc hmix Tfsc_ok globNone low131 fun args z hs hf => ?_
 obtain ⟨x, wx, rfl, rfl⟩ := p1_some hs
 refine ⟨by simp [lf131], ?_⟩
 have v1 : f2 cmpP [x.lo.enc, x.hi.enc] = some (.int .i64 (cmpF x.lo x.hi)) := f2_at wx.1 wx.2
 unfold someP someS
 obtain ⟨c, hc⟩ : ∃ c, c = cmpF x.lo x.hi := ⟨_, rfl⟩
 rw [← hc] at v1 ⊢
 obtain ⟨lo, hi, nl, nh, o1, o2⟩ := x
 have ec : (c == 0) = decide (c = 0) := rfl
 simp only [Sp.enc, Fr.enc] at v1 ⊢
 cases nl
 ·cases nh
  ·by_cases h1 : c < 0
   ·simp [lf131, v1, h1, Tfsc_mu, Tfsc_fns]
   ·by_cases h2 : c = 0
    ·cases o1 <;> simp [lf131, v1, h2, Tfsc_mu, Tfsc_fns]
    ·simp [lf131, v1, h1, ec, h2, Tfsc_mu, Tfsc_fns]
  ·simp [lf131, Tfsc_mu, Tfsc_fns]
 ·simp [lf131, Tfsc_mu, Tfsc_fns]
def apartP (x y : Sp) : PVal := .bool (apartS x y)
theorem fapart_ok : FnOk Tryz.prog base 132 (pureS (p2 apartP)) := by
 refine pure_of_vc hmix Tfsc_ok globNone low132 fun args z hs hf => ?_
 obtain ⟨x, y, wx, wy, rfl, rfl⟩ := p2_some hs
 refine ⟨by simp [lf132], ?_⟩
 have v1 : f2 cmpP [x.hi.enc, y.lo.enc] = some (.int .i64 (cmpF x.hi y.lo)) := f2_at wx.2 wy.1
 unfold apartP apartS
 obtain ⟨c, hc⟩ : ∃ c, c = cmpF x.hi y.lo := ⟨_, rfl⟩
 rw [← hc] at v1 ⊢
 obtain ⟨lo, hi, nl, nh, o1, o2⟩ := x
 obtain ⟨lo', hi', nl', nh', o1', o2'⟩ := y
 have ec : (c == 0) = decide (c = 0) := rfl
 simp only [Sp.enc, Fr.enc] at v1 ⊢
 cases nh
 ·cases nl'
  ·by_cases h1 : c < 0
   ·simp [lf132, v1, h1, Tfsc_mu, Tfsc_fns]
   ·by_cases h2 : c = 0
    ·cases o2 <;> simp [lf132, v1, h2, Tfsc_mu, Tfsc_fns]
    ·simp [lf132, v1, h1, ec, h2, Tfsc_mu, Tfsc_fns]
  ·simp [lf132, Tfsc_mu, Tfsc_fns]
 ·simp [lf132, Tfsc_mu, Tfsc_fns]
end Go.Proofs.YtepfpgnjpkcgmaaGreat

/-
 Sets of spans as pure values: what is one, on both sides.
-/
namespace Go.Proofs.YtepfpgnjpkcgmaaGreat
open Go Go.Abs Go.Limbs
variable {base : Prot}
set_option maxRecDepth 20000
attribute [local irreducible] vc
attribute [local simp] pureS touchV freezeL fuel shiftV u64 au
def okS (x : Sp) : Bool := boundS x.lo x.nl x.o1 && (boundS x.hi x.nh x.o2 && someS x)
def apO : Option Sp → Sp → Bool
 | none, _ => true
 | some a, x => apartS a x
def validP : Option Sp → List Sp → Bool
 | _, [] => true
 | a, x :: r => okS x && (apO a x && validP (some x) r)
def prevAt (l : List Sp) : Nat → Option Sp
 | 0 => none
 | j + 1 => l[j]?
theorem validP_at {l : List Sp} {i : Nat} {x : Sp} (h : l[i]? = some x) : validP (prevAt l i) (l.drop i) = (okS x && (apO (prevAt l i) x && validP (prevAt l (i + 1)) (l.drop (i + 1)))) := by
 have hi := (List.getElem?_eq_some_iff.1 h).1
 rw [List.drop_eq_getElem_cons hi, getE h]
 show _ = (okS x && (apO _ x && validP (l[i]?) _))
 rw [h]
 rfl
theorem prevAt_pos {l : List Sp} {i : Nat} (h : 0 < i) : prevAt l i = l[i - 1]? := by
 cases i with
 | zero => omega
 | succ j => rfl
def s1 (g : List Sp → PVal) : List PVal → Option PVal
 | [.lst vs] => match decSs vs with | some l => some (g l) | none => none
 | _ => none
theorem s1_at {g : List Sp → PVal} {l : List Sp} (h : wfSs l) : s1 g [.lst (l.map Sp.enc)] = some (g l) := by simp only [s1, decSs_enc h]
theorem s1_some {g : List Sp → PVal} {args : List PVal} {z : PVal} (h : s1 g args = some z) : ∃ l : List Sp, wfSs l ∧ args = [.lst (l.map Sp.enc)] ∧ z = g l := by
 unfold s1 at h
 split at h
 ·split at h
  ·rename_i l hl
   obtain ⟨rfl, w⟩ := decSs_some hl
   cases h
   exact ⟨l, w, rfl, rfl⟩
  ·cases h
 ·cases h
def validS (l : List Sp) : PVal := .bool (validP none l)
def Tfv : Tab := ((Tab.none.with 130 (pureS sBound)).with 131 (pureS (p1 someP))).with 132 (pureS (p2 apartP))
theorem Tfv_ok : TabOk Tryz.prog base Tfv := Tab.with_ok (Tab.with_ok (Tab.with_ok Tab.none_ok fbound_ok) fsome_ok) fapart_ok
theorem Tfv_mu (f : FuncId) (a : List AVal) (H : Heap) : Tfv.mu f a H = none := (rfl)
theorem Tfv_fns : Tfv.fn 130 = (pureS sBound) ∧ Tfv.fn 131 = (pureS (p1 someP)) ∧ Tfv.fn 132 = (pureS (p2 apartP)) := ⟨rfl, rfl, rfl⟩
set_option maxHeartbeats 1000000 in
theorem fvalid_ok : FnOk Tryz.prog base 60 (pureS (s1 validS)) := by
 refine pure_of_vc hmix Tfv_ok globNone low60 fun args z hs hf => ?_
 obtain ⟨l, wl, rfl, rfl⟩ := s1_some hs
 refine ⟨by simp [lf60], ?_⟩
 have hlen : l.length ≤ 9223372036854775807 := by
  have h1 := (hf _ (List.mem_singleton.2 rfl))
  have h2 := h1.lst.1
  rw [List.length_map] at h2
  exact Nat.le_trans h2 (by decide)
 unfold validS
 simp [lf60, fillS]
 simp only [lf60_B0, vc_block]
 refine loop_ind (fun fr H => ∃ i : Nat, i ≤ l.length ∧ validP none l = validP (prevAt l i) (l.drop i) ∧ fr 0 = .p (.lst (l.map Sp.enc)) ∧ fr 5 = .p (.lst (l.map Sp.enc)) ∧ fr 6 = .p (.int .i64 l.length) ∧ fr 7 = .p (.int .i64 i)) (fun fr _ => l.length - ivar (fr 7))
  ⟨0, by omega, rfl, by simp, by simp, by simp, by simp⟩ ?_
 rintro fr H ⟨i, hi, hv, f0, f5, f6, f7⟩
 by_cases h1 : i < l.length
 ·obtain ⟨x, hx⟩ : ∃ x, l[i]? = some x := ⟨_, List.getElem?_eq_getElem h1⟩
  have wx : x.wf := wl x (List.mem_of_getElem? hx)
  have hxe := getE hx
  have hw := wrap_succ (i := i) (by omega)
  rw [validP_at hx] at hv
  have v1 := sBound_at (n := x.nl) (o := x.o1) wx.1
  have v2 := sBound_at (n := x.nh) (o := x.o2) wx.2
  have v3 : p1 someP [x.enc] = some (.bool (someS x)) := p1_at wx
  unfold okS at hv
  obtain ⟨b1, hb1⟩ : ∃ b, b = boundS x.lo x.nl x.o1 := ⟨_, rfl⟩
  obtain ⟨b2, hb2⟩ : ∃ b, b = boundS x.hi x.nh x.o2 := ⟨_, rfl⟩
  obtain ⟨b3, hb3⟩ : ∃ b, b = someS x := ⟨_, rfl⟩
  rw [← hb1] at v1 hv
  rw [← hb2] at v2 hv
  rw [← hb3] at v3 hv
  simp only [Sp.enc, Fr.enc] at v1 v2 v3
  cases b1
  ·rw [hv]
   simp [f0, f5, f6, f7, h1, hxe, Sp.enc, v1, getA, getA0, setA, setA0, fillS, Tfv_mu, Tfv_fns]
  cases b2
  ·rw [hv]
   simp [f0, f5, f6, f7, h1, hxe, Sp.enc, v1, v2, v3, getA, getA0, setA, setA0, fillS, Tfv_mu, Tfv_fns]
  cases b3
  ·rw [hv]
   simp [f0, f5, f6, f7, h1, hxe, Sp.enc, v1, v2, v3, getA, getA0, setA, setA0, fillS, Tfv_mu, Tfv_fns]
  rcases Nat.eq_zero_or_pos i with rfl | hpos
  ·simp only [apO, prevAt, Bool.true_and] at hv
   simp [f0, f5, f6, f7, h1, hxe, Sp.enc, v1, v2, v3, getA, getA0, setA, setA0, fillS, Tfv_mu, Tfv_fns, ivar]
   have hw1 : IntKind.i64.wrap 1 = 1 := rfl
   rw [hw1]
   exact ⟨⟨1, by omega, by rw [hv]; rfl, by omega⟩, by omega⟩
  ·obtain ⟨y, hy⟩ : ∃ y, l[i - 1]? = some y := ⟨_, List.getElem?_eq_getElem (by omega)⟩
   have hye := getE hy
   have v4 : p2 apartP [y.enc, x.enc] = some (.bool (apartS y x)) := p2_at (wl y (List.mem_of_getElem? hy)) wx
   have hpr : apO (prevAt l i) x = apartS y x := by rw [prevAt_pos hpos, hy]; rfl
   rw [hpr] at hv
   have hj1 : i - 1 < l.length := by omega
   have hwj : IntKind.i64.wrap ((i : Int) - 1) = ((i - 1 : Nat) : Int) := wrap_pred hpos (by omega)
   obtain ⟨b4, hb4⟩ : ∃ b, b = apartS y x := ⟨_, rfl⟩
   rw [← hb4] at v4 hv
   simp only [Sp.enc, Fr.enc] at v4
   cases b4
   ·rw [hv]
    simp [f0, f5, f6, f7, h1, hxe, Sp.enc, v1, v2, v3, getA, getA0, setA, setA0, fillS, Tfv_mu, Tfv_fns, hpos, hj1, hwj, hye, v4]
   ·simp only [Bool.true_and] at hv
    simp [f0, f5, f6, f7, h1, hxe, Sp.enc, v1, v2, v3, getA, getA0, setA, setA0, fillS, Tfv_mu, Tfv_fns, hpos, hj1, hwj, hye, v4, hw, ivar]
    exact ⟨⟨i + 1, by omega, hv, by omega⟩, by omega⟩
 ·have hil : i = l.length := by omega
  subst hil
  rw [hv, List.drop_length]
  simp [f0, f5, f6, f7, validP]
end Go.Proofs.YtepfpgnjpkcgmaaGreat

/-
 Sets of spans: what is one, as the reference says.
-/
namespace Go.Proofs.YtepfpgnjpkcgmaaGreat
open Go Go.Abs Go.Limbs
variable {base : Prot}
set_option maxRecDepth 20000
attribute [local irreducible] vc
attribute [local simp] pureS touchV freezeL fuel shiftV u64 au
end Go.Proofs.YtepfpgnjpkcgmaaGreat

/-
 Sets of spans: what is in one; which span begins later, ends sooner.
-/
namespace Go.Proofs.YtepfpgnjpkcgmaaGreat
open Go Go.Abs Go.Limbs
variable {base : Prot}
set_option maxRecDepth 20000
attribute [local irreducible] vc
attribute [local simp] pureS touchV freezeL fuel shiftV u64 au
def inS (y : Sp) (x : Fr) : Bool := (y.nl || (decide (0 < cmpF x y.lo) || (decide (cmpF x y.lo = 0) && !y.o1))) && (y.nh || (decide (cmpF x y.hi < 0) || (decide (cmpF x y.hi = 0) && !y.o2)))
def inP (y : Sp) (x : Fr) : PVal := .bool (inS y x)
def Tfin : Tab := Tab.none.with 166 (pureS (f2 cmpP))
theorem Tfin_ok : TabOk Tryz.prog base Tfin := Tab.with_ok Tab.none_ok qcmp_ok
theorem Tfin_mu (f : FuncId) (a : List AVal) (H : Heap) : Tfin.mu f a H = none := (rfl)
theorem Tfin_fns : Tfin.fn 166 = (pureS (f2 cmpP)) := (rfl)
set_option maxHeartbeats 2000000 in
theorem fin_ok : FnOk Tryz.prog base 138 (pureS (px inP)) := by
 refine pure_of_vc hmix Tfin_ok globNone low138 fun args z hs hf => ?_
 obtain ⟨y, x, wy, wx, rfl, rfl⟩ := px_some hs
 refine ⟨by simp [lf138], ?_⟩
 have v1 : f2 cmpP [x.enc, y.lo.enc] = some (.int .i64 (cmpF x y.lo)) := f2_at wx wy.1
 have v2 : f2 cmpP [x.enc, y.hi.enc] = some (.int .i64 (cmpF x y.hi)) := f2_at wx wy.2
 unfold inP inS
 obtain ⟨c, hc⟩ : ∃ c, c = cmpF x y.lo := ⟨_, rfl⟩
 obtain ⟨d, hd⟩ : ∃ c, c = cmpF x y.hi := ⟨_, rfl⟩
 rw [← hc] at v1 ⊢
 rw [← hd] at v2 ⊢
 clear hc hd
 obtain ⟨lo, hi, nl, nh, o1, o2⟩ := y
 have ec : (c == 0) = decide (c = 0) := rfl
 have ed : (d == 0) = decide (d = 0) := rfl
 obtain ⟨c1, hc1⟩ : ∃ b, b = decide (0 < c) := ⟨_, rfl⟩
 obtain ⟨c2, hc2⟩ : ∃ b, b = decide (c = 0) := ⟨_, rfl⟩
 obtain ⟨d1, hd1⟩ : ∃ b, b = decide (d < 0) := ⟨_, rfl⟩
 obtain ⟨d2, hd2⟩ : ∃ b, b = decide (d = 0) := ⟨_, rfl⟩
 rw [← hc2] at ec
 rw [← hd2] at ed
 simp only [← hc1, ← hc2, ← hd1, ← hd2]
 simp only [Sp.enc, Fr.enc] at v1 v2 ⊢
 cases nl <;> cases nh <;> cases c1 <;> cases c2 <;> cases o1 <;> cases d1 <;> cases d2 <;> simp [lf138, v1, v2, ← hc1, ← hd1, ec, ed, Tfin_mu, Tfin_fns]
def laterS (a b : Sp) : Bool := if (a.nl || b.nl) = true then !a.nl else decide (0 < cmpF a.lo b.lo) || (decide (cmpF a.lo b.lo = 0) && a.o1)
def soonerS (a b : Sp) : Bool := if (a.nh || b.nh) = true then !a.nh else decide (cmpF a.hi b.hi < 0) || (decide (cmpF a.hi b.hi = 0) && a.o2)
def laterP (a b : Sp) : PVal := .bool (laterS a b)
def soonerP (a b : Sp) : PVal := .bool (soonerS a b)
theorem flater_ok : FnOk Tryz.prog base 177 (pureS (p2 laterP)) := by
 refine pure_of_vc hmix Tfin_ok globNone low177 fun args z hs hf => ?_
 obtain ⟨x, y, wx, wy, rfl, rfl⟩ := p2_some hs
 refine ⟨by simp [lf177], ?_⟩
 have v1 : f2 cmpP [x.lo.enc, y.lo.enc] = some (.int .i64 (cmpF x.lo y.lo)) := f2_at wx.1 wy.1
 unfold laterP laterS
 obtain ⟨c, hc⟩ : ∃ c, c = cmpF x.lo y.lo := ⟨_, rfl⟩
 rw [← hc] at v1 ⊢
 clear hc
 obtain ⟨lo, hi, nl, nh, o1, o2⟩ := x
 obtain ⟨lo', hi', nl', nh', o1', o2'⟩ := y
 have ec : (c == 0) = decide (c = 0) := rfl
 obtain ⟨c1, hc1⟩ : ∃ b, b = decide (0 < c) := ⟨_, rfl⟩
 obtain ⟨c2, hc2⟩ : ∃ b, b = decide (c = 0) := ⟨_, rfl⟩
 rw [← hc2] at ec
 simp only [← hc1, ← hc2]
 simp only [Sp.enc, Fr.enc] at v1 ⊢
 cases nl <;> cases nl' <;> cases c1 <;> cases c2 <;> simp [lf177, v1, ← hc1, ec, Tfin_mu, Tfin_fns]
theorem fsooner_ok : FnOk Tryz.prog base 135 (pureS (p2 soonerP)) := by
 refine pure_of_vc hmix Tfin_ok globNone low135 fun args z hs hf => ?_
 obtain ⟨x, y, wx, wy, rfl, rfl⟩ := p2_some hs
 refine ⟨by simp [lf135], ?_⟩
 have v1 : f2 cmpP [x.hi.enc, y.hi.enc] = some (.int .i64 (cmpF x.hi y.hi)) := f2_at wx.2 wy.2
 unfold soonerP soonerS
 obtain ⟨c, hc⟩ : ∃ c, c = cmpF x.hi y.hi := ⟨_, rfl⟩
 rw [← hc] at v1 ⊢
 clear hc
 obtain ⟨lo, hi, nl, nh, o1, o2⟩ := x
 obtain ⟨lo', hi', nl', nh', o1', o2'⟩ := y
 have ec : (c == 0) = decide (c = 0) := rfl
 obtain ⟨c1, hc1⟩ : ∃ b, b = decide (c < 0) := ⟨_, rfl⟩
 obtain ⟨c2, hc2⟩ : ∃ b, b = decide (c = 0) := ⟨_, rfl⟩
 rw [← hc2] at ec
 simp only [← hc1, ← hc2]
 simp only [Sp.enc, Fr.enc] at v1 ⊢
 cases nh <;> cases nh' <;> cases c1 <;> cases c2 <;> simp [lf135, v1, ← hc1, ec, Tfin_mu, Tfin_fns]
end Go.Proofs.YtepfpgnjpkcgmaaGreat

/-
 Sets of spans: what is in one, both sides.
-/
namespace Go.Proofs.YtepfpgnjpkcgmaaGreat
open Go Go.Abs Go.Limbs
variable {base : Prot}
set_option maxRecDepth 20000
attribute [local irreducible] vc
attribute [local simp] pureS touchV freezeL fuel shiftV u64 au
end Go.Proofs.YtepfpgnjpkcgmaaGreat

/-
 Sets of spans: Has, both sides.
-/
namespace Go.Proofs.YtepfpgnjpkcgmaaGreat
open Go Go.Abs Go.Limbs
variable {base : Prot}
set_option maxRecDepth 20000
attribute [local irreducible] vc
attribute [local simp] pureS touchV freezeL fuel shiftV u64 au
def hasS (l : List Sp) (x : Fr) : Bool := validP none l && (x.ok && l.any fun y => inS y x)
def s1x (g : List Sp → Fr → PVal) : List PVal → Option PVal
 | [.lst vs, a] => match decSs vs, decF a with | some l, some x => some (g l x) | _, _ => none
 | _ => none
theorem s1x_at {g : List Sp → Fr → PVal} {l : List Sp} {x : Fr} (h : wfSs l) (hx : x.wf) : s1x g [.lst (l.map Sp.enc), x.enc] = some (g l x) := by simp only [s1x, decSs_enc h, decF_enc hx]
theorem s1x_some {g : List Sp → Fr → PVal} {args : List PVal} {z : PVal} (h : s1x g args = some z) : ∃ (l : List Sp) (x : Fr), wfSs l ∧ x.wf ∧ args = [.lst (l.map Sp.enc), x.enc] ∧ z = g l x := by
 unfold s1x at h
 split at h
 ·split at h
  ·rename_i l x hl hx
   obtain ⟨rfl, w⟩ := decSs_some hl
   obtain ⟨rfl, wx⟩ := decF_some hx
   cases h
   exact ⟨l, x, w, wx, rfl, rfl⟩
  ·cases h
 ·cases h
def hasP (l : List Sp) (x : Fr) : PVal := .bool (hasS l x)
theorem any_at {l : List Sp} {i : Nat} {y : Sp} {x : Fr} (h : l[i]? = some y) : (l.drop i).any (fun y => inS y x) = (inS y x || (l.drop (i + 1)).any fun y => inS y x) := by
 have hi := (List.getElem?_eq_some_iff.1 h).1
 rw [List.drop_eq_getElem_cons hi, getE h]
 rfl
def Tfha : Tab := ((Tab.none.with 60 (pureS (s1 validS))).with 89 (pureS (f1 boolF))).with 138 (pureS (px inP))
theorem Tfha_ok : TabOk Tryz.prog base Tfha := Tab.with_ok (Tab.with_ok (Tab.with_ok Tab.none_ok fvalid_ok) qvalid_ok) fin_ok
theorem Tfha_mu (f : FuncId) (a : List AVal) (H : Heap) : Tfha.mu f a H = none := (rfl)
theorem Tfha_fns : Tfha.fn 60 = (pureS (s1 validS)) ∧ Tfha.fn 89 = (pureS (f1 boolF)) ∧ Tfha.fn 138 = (pureS (px inP)) := ⟨rfl, rfl, rfl⟩
theorem fhas_ok : FnOk Tryz.prog base 69 (pureS (s1x hasP)) := by
 refine pure_of_vc hmix Tfha_ok globNone low69 fun args z hs hf => ?_
 obtain ⟨l, x, wl, wx, rfl, rfl⟩ := s1x_some hs
 refine ⟨by simp [lf69], ?_⟩
 have hlen : l.length ≤ 9223372036854775807 := by
  have h1 := (hf _ (List.mem_cons_self ..))
  have h2 := h1.lst.1
  rw [List.length_map] at h2
  exact Nat.le_trans h2 (by decide)
 have v1 : s1 validS [.lst (l.map Sp.enc)] = some (.bool (validP none l)) := s1_at wl
 have v2 := vF wx
 unfold hasP hasS
 cases h1 : validP none l with
 | false => rw [h1] at v1; simp only [Fr.enc] at v2 ⊢; simp [lf69, v1, Tfha_mu, Tfha_fns]
 | true =>
 rw [h1] at v1
 cases h2 : x.ok with
 | false => rw [h2] at v2; simp only [Fr.enc] at v2 ⊢; simp [lf69, v1, v2, Tfha_mu, Tfha_fns]
 | true =>
 rw [h2] at v2
 obtain ⟨r, hr⟩ : ∃ r, r = l.any (fun y => inS y x) := ⟨_, rfl⟩
 rw [← hr]
 simp only [Fr.enc] at v2 ⊢
 simp [lf69, v1, v2, fillS, Tfha_mu, Tfha_fns]
 simp only [lf69_B0, vc_block]
 refine loop_ind (fun fr H => ∃ i : Nat, (∃ ex : Heap, H = ⟨3, 0, false, [.p x.enc], 25⟩ :: ex) ∧ i ≤ l.length ∧ r = (l.drop i).any (fun y => inS y x) ∧ fr 15 = .p (.lst (l.map Sp.enc)) ∧ fr 16 = .p (.int .i64 l.length) ∧ fr 3 = .optr 0 0 0 0 ∧ fr 17 = .p (.int .i64 i)) (fun fr _ => l.length - ivar (fr 17))
  ⟨0, ⟨[], by simp [Fr.enc]⟩, by omega, by rw [hr]; rfl, by simp, by simp, by simp, by simp⟩ ?_
 rintro fr H ⟨i, ⟨ex, rfl⟩, hi, hv, f0, f1', f3, f5⟩
 by_cases h1 : i < l.length
 ·obtain ⟨y, hy⟩ : ∃ y, l[i]? = some y := ⟨_, List.getElem?_eq_getElem h1⟩
  have hye := getE hy
  have hw := wrap_succ (i := i) (by omega)
  rw [any_at hy] at hv
  have v3 : px inP [y.enc, x.enc] = some (.bool (inS y x)) := px_at (wl y (List.mem_of_getElem? hy)) wx
  obtain ⟨b, hb⟩ : ∃ b, b = inS y x := ⟨_, rfl⟩
  rw [← hb] at v3 hv
  simp only [Sp.enc, Fr.enc] at v3 ⊢
  cases b
  ·simp only [Bool.false_or] at hv
   simp [f0, f1', f3, f5, h1, hye, Sp.enc, v3, hw, ivar, getA, getA0, setA, setA0, fillS, Tfha_mu, Tfha_fns]
   exact ⟨⟨i + 1, by omega, by simpa using hv, by omega⟩, by omega⟩
  ·simp only [Bool.true_or] at hv
   simp [f0, f1', f3, f5, h1, hye, Sp.enc, v3, hv, getA, getA0, setA, setA0, fillS, Tfha_mu, Tfha_fns]
 ·have hil : i = l.length := by omega
  subst hil
  rw [List.drop_length] at hv
  simp [f0, f1', f3, f5, hv, Fr.enc]
end Go.Proofs.YtepfpgnjpkcgmaaGreat

/-
 Sets of spans: the same, as the reference says.
-/
namespace Go.Proofs.YtepfpgnjpkcgmaaGreat
open Go Go.Abs Go.Limbs
variable {base : Prot}
set_option maxRecDepth 20000
attribute [local irreducible] vc
attribute [local simp] pureS touchV freezeL fuel shiftV u64 au
instance : DecidableEq Sp := fun x y => if h : x.lo = y.lo ∧ x.hi = y.hi ∧ x.nl = y.nl ∧ x.nh = y.nh ∧ x.o1 = y.o1 ∧ x.o2 = y.o2 then .isTrue (by cases x; cases y; obtain ⟨a, b, c, d, e, f⟩ := h; simp_all) else .isFalse (fun e => h (by rw [e]; exact ⟨rfl, rfl, rfl, rfl, rfl, rfl⟩))
theorem sp_eq {x y : Sp} : x = y ↔ x.nl = y.nl ∧ x.nh = y.nh ∧ x.o1 = y.o1 ∧ x.o2 = y.o2 ∧ x.lo = y.lo ∧ x.hi = y.hi := by
 cases x; cases y; simp; grind
def ss2 (g : List Sp → List Sp → PVal) : List PVal → Option PVal
 | [.lst vs, .lst ws] => match decSs vs, decSs ws with | some l, some m => some (g l m) | _, _ => none
 | _ => none
theorem ss2_at {g : List Sp → List Sp → PVal} {l m : List Sp} (h : wfSs l) (h' : wfSs m) : ss2 g [.lst (l.map Sp.enc), .lst (m.map Sp.enc)] = some (g l m) := by simp only [ss2, decSs_enc h, decSs_enc h']
theorem ss2_some {g : List Sp → List Sp → PVal} {args : List PVal} {z : PVal} (h : ss2 g args = some z) : ∃ l m : List Sp, wfSs l ∧ wfSs m ∧ args = [.lst (l.map Sp.enc), .lst (m.map Sp.enc)] ∧ z = g l m := by
 unfold ss2 at h
 split at h
 ·split at h
  ·rename_i l m hl hm
   obtain ⟨rfl, w⟩ := decSs_some hl
   obtain ⟨rfl, w'⟩ := decSs_some hm
   cases h
   exact ⟨l, m, w, w', rfl, rfl⟩
  ·cases h
 ·cases h
def sameSs (l m : List Sp) : PVal := .bool (decide (l = m))
def Tssp : Tab := Tab.none.with 29 (pureS (f2 sameP))
theorem Tssp_ok : TabOk Tryz.prog base Tssp := Tab.with_ok Tab.none_ok rsame_ok
theorem Tssp_mu (f : FuncId) (a : List AVal) (H : Heap) : Tssp.mu f a H = none := (rfl)
theorem Tssp_fns : Tssp.fn 29 = (pureS (f2 sameP)) := (rfl)
theorem rsamesp_ok : FnOk Tryz.prog base 62 (pureS (ss2 sameSs)) := by
 refine pure_of_vc hmix Tssp_ok globNone low62 fun args z hs hf => ?_
 obtain ⟨l, m, wl, wm, rfl, rfl⟩ := ss2_some hs
 refine ⟨by simp [lf62], ?_⟩
 have hlen : l.length ≤ 9223372036854775807 := by
  have h1 := (hf _ (List.mem_cons_self ..))
  have h2 := h1.lst.1
  rw [List.length_map] at h2
  exact Nat.le_trans h2 (by decide)
 unfold sameSs
 by_cases hl : l.length = m.length
 ·obtain ⟨r, hr⟩ : ∃ r, r = decide (l = m) := ⟨_, rfl⟩
  rw [← hr]
  simp [lf62, hl, fillS]
  simp only [lf62_B0, vc_block]
  refine loop_ind (fun fr H => ∃ i : Nat, i ≤ m.length ∧ r = decide (l.drop i = m.drop i) ∧ fr 0 = .p (.lst (l.map Sp.enc)) ∧ fr 1 = .p (.lst (m.map Sp.enc)) ∧ fr 5 = .p (.int .i64 i)) (fun fr _ => m.length - ivar (fr 5))
   ⟨0, by omega, by rw [hr]; rfl, by simp, by simp, by simp⟩ ?_
  rintro fr H ⟨i, hi, hv, f0, f1', f5⟩
  by_cases h1 : i < m.length
  ·obtain ⟨x, hx⟩ : ∃ x, l[i]? = some x := ⟨_, List.getElem?_eq_getElem (by omega)⟩
   obtain ⟨y, hy⟩ : ∃ y, m[i]? = some y := ⟨_, List.getElem?_eq_getElem h1⟩
   have hxe := getE hx
   have hye := getE hy
   have h1' : i < l.length := by omega
   simp [f0, f1', f5, h1, hl, hxe, hye, Sp.enc, getA, getA0, setA, setA0, fillS, Tssp_mu, Tssp_fns]
   rw [vc_regionN]
   refine ⟨[], ?_⟩
   simp [f0, f1', f5, h1, hl, hxe, hye, Sp.enc, getA, getA0, setA, setA0, fillS, Tssp_mu, Tssp_fns]
   refine ⟨keepA, ?_⟩
   have wx := wl x (List.mem_of_getElem? hx)
   have wy := wm y (List.mem_of_getElem? hy)
   have s1' : f2 sameP [x.lo.enc, y.lo.enc] = some (.bool (decide (x.lo = y.lo))) := by rw [f2_at wx.1 wy.1, sameP_dec]
   have s2' : f2 sameP [x.hi.enc, y.hi.enc] = some (.bool (decide (x.hi = y.hi))) := by rw [f2_at wx.2 wy.2, sameP_dec]
   have hw := wrap_succ (i := i) (by omega)
   have hd : decide (l.drop i = m.drop i) = (decide (x.nl = y.nl) && (decide (x.nh = y.nh) && (decide (x.o1 = y.o1) && (decide (x.o2 = y.o2) && (decide (x.lo = y.lo) && (decide (x.hi = y.hi) && decide (l.drop (i + 1) = m.drop (i + 1)))))))) := by
    rw [List.drop_eq_getElem_cons h1', List.drop_eq_getElem_cons h1, hxe, hye, Bool.eq_iff_iff]
    simp [sp_eq]
    grind
   rw [hd] at hv
   obtain ⟨b1, hb1⟩ : ∃ b, b = decide (x.lo = y.lo) := ⟨_, rfl⟩
   obtain ⟨b2, hb2⟩ : ∃ b, b = decide (x.hi = y.hi) := ⟨_, rfl⟩
   rw [← hb1] at s1' hv
   rw [← hb2] at s2' hv
   simp only [Fr.enc] at s1' s2'
   have eb : ∀ a b : Bool, (a == b) = decide (a = b) := fun a b => by cases a <;> cases b <;> rfl
   obtain ⟨q1, h1q⟩ : ∃ b, b = decide (x.nl = y.nl) := ⟨_, rfl⟩
   obtain ⟨q2, h2q⟩ : ∃ b, b = decide (x.nh = y.nh) := ⟨_, rfl⟩
   obtain ⟨q3, h3q⟩ : ∃ b, b = decide (x.o1 = y.o1) := ⟨_, rfl⟩
   obtain ⟨q4, h4q⟩ : ∃ b, b = decide (x.o2 = y.o2) := ⟨_, rfl⟩
   rw [← h1q, ← h2q, ← h3q, ← h4q] at hv
   have k1 : (x.nl == y.nl) = q1 := by rw [eb, ← h1q]
   have k2 : (x.nh == y.nh) = q2 := by rw [eb, ← h2q]
   have k3' : (x.o1 == y.o1) = q3 := by rw [eb, ← h3q]
   have k4 : (x.o2 == y.o2) = q4 := by rw [eb, ← h4q]
   clear h1q h2q h3q h4q hb1 hb2 hd
   cases q1
   ·rw [hv]; simp [f0, f1', f5, h1, hl, hxe, hye, Sp.enc, s1', s2', getA, getA0, setA, setA0, fillS, Tssp_mu, Tssp_fns, k1]
   cases q2
   ·rw [hv]; simp [f0, f1', f5, h1, hl, hxe, hye, Sp.enc, s1', s2', getA, getA0, setA, setA0, fillS, Tssp_mu, Tssp_fns, k1, k2]
   cases q3
   ·rw [hv]; simp [f0, f1', f5, h1, hl, hxe, hye, Sp.enc, s1', s2', getA, getA0, setA, setA0, fillS, Tssp_mu, Tssp_fns, k1, k2, k3']
   cases q4
   ·rw [hv]; simp [f0, f1', f5, h1, hl, hxe, hye, Sp.enc, s1', s2', getA, getA0, setA, setA0, fillS, Tssp_mu, Tssp_fns, k1, k2, k3', k4]
   cases b1
   ·rw [hv]; simp [f0, f1', f5, h1, hl, hxe, hye, Sp.enc, s1', s2', getA, getA0, setA, setA0, fillS, Tssp_mu, Tssp_fns, k1, k2, k3', k4]
   cases b2
   ·rw [hv]; simp [f0, f1', f5, h1, hl, hxe, hye, Sp.enc, s1', s2', getA, getA0, setA, setA0, fillS, Tssp_mu, Tssp_fns, k1, k2, k3', k4]
   simp only [Bool.true_and] at hv
   simp [f0, f1', f5, h1, hl, hxe, hye, Sp.enc, s1', s2', getA, getA0, setA, setA0, fillS, Tssp_mu, Tssp_fns, k1, k2, k3', k4, hw, ivar]
   exact ⟨⟨i + 1, by omega, hv, by omega⟩, by omega⟩
  ·have hil : i = m.length := by omega
   subst hil
   rw [List.drop_length, ← hl, List.drop_length] at hv
   simp [f0, f1', f5, hl, hv]
 ·have hne : decide (l = m) = false := decide_eq_false (fun e => hl (by rw [e]))
  have hb : ((l.length : Int) != (m.length : Int)) = true := by simp; omega
  rw [hne]
  simp [lf62, hb, fillS]
end Go.Proofs.YtepfpgnjpkcgmaaGreat

/-
 Sets of spans: all numbers; one number: both sides.
-/
namespace Go.Proofs.YtepfpgnjpkcgmaaGreat
open Go Go.Abs Go.Limbs
variable {base : Prot}
set_option maxRecDepth 20000
attribute [local irreducible] vc
attribute [local simp] pureS touchV freezeL fuel shiftV u64 au
def allSp : Sp := ⟨zF, zF, true, true, false, false⟩
def sAll : List PVal → Option PVal
 | [] => some (.lst [allSp.enc])
 | _ => none
theorem fall_ok : FnOk Tryz.prog base 73 (pureS sAll) := by
 refine pure_of_vc hmix Tab.none_ok globNone low73 fun args z hs hf => ?_
 unfold sAll at hs
 split at hs
 case h_2 => cases hs
 cases hs
 refine ⟨by simp [lf73], ?_⟩
 simp [lf73, allSp, Sp.enc, zF, fillS]
def pointS (x : Fr) : List Sp := if x.ok = true then [⟨x, x, false, false, false, false⟩] else []
def pointP (x : Fr) : PVal := .lst ((pointS x).map Sp.enc)
end Go.Proofs.YtepfpgnjpkcgmaaGreat
