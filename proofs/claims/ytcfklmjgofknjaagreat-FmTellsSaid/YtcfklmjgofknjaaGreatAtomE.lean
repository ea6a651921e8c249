/-
  Values of atoms: the plain law. No conditions beyond the lemmas' own hypotheses.
-/
import Derived.Test.YtcfklmjgofknjaaGreatAtomD
set_option linter.unusedSimpArgs false
set_option linter.unnecessarySimpa false
set_option linter.unusedVariables false
set_option linter.constructorNameAsVariable false

/-
 law9: AtomTells answers true.
-/
namespace Go.Proofs.YtcfklmjgofknjaaGreat
open Go Go.Abs Go.Limbs
variable {base : Prot}
set_option maxRecDepth 20000
attribute [local irreducible] vc
attribute [local simp] pureS touchV freezeL fuel shiftV u64 au
theorem wf_notAt (x : At) : (notAt x).1.p.wf := by
 unfold notAt
 split
 ·split
  ·exact wf_makeAt
  ·exact wf_zPo
 ·exact wf_zPo
theorem sameAt_self {x : At} (h : x.p.wf) : h2 sameAt [x.enc, x.enc] = some (.bool true) := by rw [h2_at h h]; unfold sameAt; rw [decide_eq_true rfl]
end Go.Proofs.YtcfklmjgofknjaaGreat

/-
 law9: AtomForms answers true.
-/
namespace Go.Proofs.YtcfklmjgofknjaaGreat
open Go Go.Abs Go.Limbs
variable {base : Prot}
set_option maxRecDepth 20000
attribute [local irreducible] vc
attribute [local simp] pureS touchV freezeL fuel shiftV u64 au
structure FormF (K kd : Int) (p q A : Po) (n : Bool) : Prop where
 m1 : ki makeP [.int .i64 kd, p.enc] = some (.tup [(At.mk K A 0 0).enc, .bool n, .int .i64 0])
 m2 : ki makeP [.int .i64 kd, q.enc] = some (.tup [(At.mk K A 0 0).enc, .bool n, .int .i64 0])
 sm : h2 sameAt [(At.mk K A 0 0).enc, (At.mk K A 0 0).enc] = some (.bool true)
 v : h1 okAt [(At.mk K A 0 0).enc] = some (.bool true)
structure NotF (K J : Int) (A M : Po) : Prop where
 n1 : h1s notP [(At.mk K A 0 0).enc] = some (.tup [(At.mk J M 0 0).enc, .bool true])
 n2 : h1s notP [(At.mk J M 0 0).enc] = some (.tup [(At.mk K A 0 0).enc, .bool true])
 v2 : h1 okAt [(At.mk J M 0 0).enc] = some (.bool true)
 d : h2 sameAt [(At.mk J M 0 0).enc, (At.mk K A 0 0).enc] = some (.bool false)
end Go.Proofs.YtcfklmjgofknjaaGreat

/-
 Values of sums of fractions: the plain law.
-/
namespace Go.Proofs.YtcfklmjgofknjaaGreat
open Go Go.Abs Go.Limbs
set_option maxRecDepth 20000
def sumQ (l : Int → Rat) : QP → Rat → Rat
 | [], s => s
 | x :: r, s => sumQ l r (s + x.1 * l x.2)
theorem heldQ_zero {q : Rat} (h : (heldQ q).2 = 0) : heldQ q = (ofQ q, 0) ∧ Sm 64 q := by
 unfold heldQ at h ⊢
 split
 ·exact ⟨rfl, by assumption⟩
 ·rename_i hn; rw [if_neg hn] at h; cases h
def valQ (l : Int → Rat) (P : Qo) : Rat := sumQ l P.ps P.c
end Go.Proofs.YtcfklmjgofknjaaGreat

/-
 law9: AtomOpposites answers true.
-/
namespace Go.Proofs.YtcfklmjgofknjaaGreat
open Go Go.Abs Go.Limbs
variable {base : Prot}
set_option maxRecDepth 20000
attribute [local irreducible] vc
attribute [local simp] pureS touchV freezeL fuel shiftV u64 au
end Go.Proofs.YtcfklmjgofknjaaGreat

/-
 law23: sums at values, without and with a term: the plain law.
-/
namespace Go.Proofs.YtcfklmjgofknjaaGreat
open Go Go.Abs Go.Limbs
set_option maxRecDepth 20000
theorem ok_of_at {x : At} (h : x.ok = true) (hk : isSum x.k = true) : x.p.ok = true := by
 unfold At.ok at h
 rw [if_pos hk] at h
 simp only [Bool.and_eq_true] at h
 exact h.2.2.1
def fq (lk : Int → Fr) (i : Int) : Rat := if (lk i).ok = true then (lk i).q else 0
def coefQ (t : Int) : QP → Rat
 | [] => 0
 | x :: r => if x.2 = t then x.1 else coefQ t r
def dropQ (t : Int) : QP → QP
 | [] => []
 | x :: r => if x.2 = t then r else x :: dropQ t r
theorem find_of (t : Int) : ∀ ps : QP, (findF t (ps.map ofA) = none ∧ coefQ t ps = 0) ∨ findF t (ps.map ofA) = some (ofQ (coefQ t ps))
 | [] => .inl ⟨rfl, rfl⟩
 | x :: r => by
  show ((if x.2 = t then some (ofQ x.1) else findF t (r.map ofA)) = none ∧ _) ∨ (if x.2 = t then some (ofQ x.1) else findF t (r.map ofA)) = _
  unfold coefQ
  split
  ·exact .inr rfl
  ·exact find_of t r
theorem coef_of {P : Qo} (hP : P.Is 64) (t : Int) : coefPo (ofP P) t = ofQ (coefQ t P.ps) := by
 unfold coefPo
 rw [ok_ofP hP]
 show (match findF t (P.ps.map ofA) with | some c => if True then c else ofQ 0 | none => ofQ 0) = _
 rcases find_of t P.ps with ⟨h, h'⟩ | h
 ·rw [h, h']
 ·rw [h]; rfl
theorem coef_sm (t : Int) : ∀ {ps : QP}, SmP 64 ps → Sm 64 (coefQ t ps)
 | [], _ => by show Sm 64 (0 : Rat); decide +kernel
 | x :: r, h => by
  unfold coefQ
  split
  ·exact h x (by simp)
  ·exact coef_sm t fun y hy => h y (by simp [hy])
theorem okQ_mono {a b : Int} : ∀ {ps : QP}, okQ b ps → a ≤ b → okQ a ps
 | [], _, _ => trivial
 | x :: r, h, hab => ⟨by have := h.1; omega, h.2.1, h.2.2⟩
def withoutQ (P : Qo) (t : Int) : Qo := ⟨dropQ t P.ps, P.c⟩
theorem sumQ_add (l : Int → Rat) : ∀ (ps : QP) (s u : Rat), sumQ l ps (s + u) = sumQ l ps s + u
 | [], s, u => rfl
 | x :: r, s, u => by
  show sumQ l r (s + u + x.1 * l x.2) = sumQ l r (s + x.1 * l x.2) + u
  rw [← sumQ_add l r, show s + u + x.1 * l x.2 = s + x.1 * l x.2 + u by grind]
theorem sumQ_congr {l l' : Int → Rat} : ∀ {ps : QP} {s : Rat}, (∀ x ∈ ps, l x.2 = l' x.2) → sumQ l ps s = sumQ l' ps s
 | [], _, _ => rfl
 | x :: r, s, h => by
  show sumQ l r (s + x.1 * l x.2) = sumQ l' r (s + x.1 * l' x.2)
  rw [h x (by simp), sumQ_congr fun y hy => h y (by simp [hy])]
theorem okQ_lt {t : Int} : ∀ {ps : QP}, okQ t ps → ∀ x ∈ ps, t < x.2
 | y :: r, h, x, hx => by
  rcases List.mem_cons.1 hx with rfl | hx
  ·exact h.1
  ·exact okQ_lt (okQ_mono h.2.2 (by have := h.1; omega)) x hx
theorem sum_split {f f' : Int → Rat} {t : Int} (hf : ∀ i, i ≠ t → f' i = f i) : ∀ {ps : QP} {a : Int} {s : Rat}, okQ a ps → sumQ f' ps s = sumQ f (dropQ t ps) s + coefQ t ps * f' t
 | [], _, s, _ => by show s = s + 0 * f' t; grind
 | x :: r, a, s, h => by
  show sumQ f' r (s + x.1 * f' x.2) = _
  unfold dropQ coefQ
  by_cases hx : x.2 = t
  ·rw [if_pos hx, if_pos hx, hx, sumQ_add]
   have e : sumQ f' r s = sumQ f r s := sumQ_congr fun y hy => hf _ fun e => by
    have := okQ_lt h.2.2 y hy
    omega
   rw [e]
  ·rw [if_neg hx, if_neg hx, sum_split hf h.2.2, hf _ hx]
   rfl
theorem val_split {f f' : Int → Rat} {t : Int} (hf : ∀ i, i ≠ t → f' i = f i) {P : Qo} {k : Nat} (h : P.Is k) : valQ f' P = valQ f (withoutQ P t) + coefQ t P.ps * f' t := sum_split hf h.ok
end Go.Proofs.YtcfklmjgofknjaaGreat
