/-
  Sums of fractions: the plain law. No conditions beyond the lemmas' own hypotheses.
-/
import Derived.Test.YtcfklmjgofknjaaGreatLinD
set_option linter.unusedSimpArgs false
set_option linter.unnecessarySimpa false
set_option linter.unusedVariables false
set_option linter.constructorNameAsVariable false

/-
 Sums of fractions, without memory: sums, multiples, values; no program in sight.
-/
namespace Go.Proofs.YtcfklmjgofknjaaGreat
open Go Go.Abs Go.Limbs
set_option maxRecDepth 20000
abbrev QP := List (Rat × Int)
def okQ : Int → QP → Prop
 | _, [] => True
 | a, x :: r => a < x.2 ∧ x.1 ≠ 0 ∧ okQ x.2 r
def ofA (x : Rat × Int) : Pa := ⟨ofQ x.1, x.2⟩
structure Qo where
 ps : QP
 c : Rat
def ofP (p : Qo) : Po := ⟨p.ps.map ofA, ofQ p.c⟩
def SmP (k : Nat) (l : QP) : Prop := ∀ x ∈ l, Sm k x.1
structure Qo.Is (p : Qo) (k : Nat) : Prop where
 ok : okQ (-1) p.ps
 sp : SmP k p.ps
 sc : Sm k p.c
theorem ofA_wf (x : Rat × Int) : (ofA x).wf := wf_ofQ _
theorem wfPs_of (l : QP) : wfPs (l.map ofA) := fun y hy => by
 obtain ⟨x, _, rfl⟩ := List.mem_map.1 hy
 exact ofA_wf x
theorem wf_ofP (p : Qo) : (ofP p).wf := ⟨wfPs_of _, wf_ofQ _⟩
theorem ofQ_n {q : Rat} : (ofQ q).n = [] ↔ q = 0 := by
 show limbs q.num.natAbs = [] ↔ q = 0
 rw [limbs_eq_nil, Int.natAbs_eq_zero, Rat.num_eq_zero]
theorem okParts_of : ∀ {l : QP} {a : Int}, okQ a l → SmP 64 l → okParts a (l.map ofA) = true
 | [], _, _, _ => rfl
 | x :: r, a, h, hs => by
  simp only [List.map_cons, okParts, Bool.and_eq_true, decide_eq_true_eq, Bool.not_eq_true', decide_eq_false_iff_not]
  exact ⟨⟨⟨h.1, ok_ofQ (hs x (by simp))⟩, fun e => h.2.1 (ofQ_n.1 e)⟩, okParts_of h.2.2 fun y hy => hs y (by simp [hy])⟩
theorem of_okParts : ∀ {l : List Pa} {a : Int}, okParts a l = true → ∃ m : QP, okQ a m ∧ SmP 64 m ∧ l = m.map ofA
 | [], _, _ => ⟨[], trivial, fun x hx => (by cases hx), rfl⟩
 | x :: r, a, h => by
  simp only [okParts, Bool.and_eq_true, decide_eq_true_eq, Bool.not_eq_true', decide_eq_false_iff_not] at h
  obtain ⟨⟨⟨h1, h2⟩, h3⟩, h4⟩ := h
  obtain ⟨m, m1, m2, rfl⟩ := of_okParts h4
  obtain ⟨q, hq, hx⟩ := Fr.ok_of h2
  obtain ⟨c, t⟩ := x
  simp only at hx h1 h3 m1
  subst hx
  exact ⟨(q, t) :: m, ⟨h1, fun e => h3 (ofQ_n.2 e), m1⟩, fun y hy => by
   rcases List.mem_cons.1 hy with rfl | hy
   ·exact hq
   ·exact m2 y hy, rfl⟩
theorem SmP.mono {j k : Nat} {l : QP} (h : SmP j l) (hk : j ≤ k) : SmP k l := fun x hx => Sm_mono (h x hx) hk
theorem Qo.Is.mono {p : Qo} {j k : Nat} (h : p.Is j) (hk : j ≤ k) : p.Is k := ⟨h.ok, h.sp.mono hk, Sm_mono h.sc hk⟩
theorem ok_ofP {p : Qo} (h : p.Is 64) : (ofP p).ok = true := by
 unfold Po.ok ofP
 rw [okParts_of h.ok h.sp, ok_ofQ h.sc]
 rfl
theorem po_of {p : Po} (h : p.ok = true) : ∃ q : Qo, q.Is 64 ∧ p = ofP q := by
 unfold Po.ok at h
 rw [Bool.and_eq_true] at h
 obtain ⟨m, m1, m2, m3⟩ := of_okParts h.1
 obtain ⟨c, c1, c2⟩ := Fr.ok_of h.2
 obtain ⟨ps, pc⟩ := p
 simp only at m3 c2
 subst m3 c2
 exact ⟨⟨m, c⟩, ⟨m1, m2, c1⟩, rfl⟩
def mergeQ : QP → QP → QP
 | [], r => r
 | x :: l, [] => x :: l
 | x :: l, y :: r =>
  if x.2 < y.2 then x :: mergeQ l (y :: r)
  else if y.2 < x.2 then y :: mergeQ (x :: l) r
  else if x.1 + y.1 = 0 then mergeQ l r else (x.1 + y.1, x.2) :: mergeQ l r
termination_by l r => l.length + r.length
theorem mergeQ_lt {x y : Rat × Int} {l r : QP} (h : x.2 < y.2) : mergeQ (x :: l) (y :: r) = x :: mergeQ l (y :: r) := by rw [mergeQ, if_pos h]
theorem mergeQ_gt {x y : Rat × Int} {l r : QP} (h : y.2 < x.2) : mergeQ (x :: l) (y :: r) = y :: mergeQ (x :: l) r := by rw [mergeQ, if_neg (by omega), if_pos h]
theorem mergeQ_eq {x y : Rat × Int} {l r : QP} (h : x.2 = y.2) : mergeQ (x :: l) (y :: r) = if x.1 + y.1 = 0 then mergeQ l r else (x.1 + y.1, x.2) :: mergeQ l r := by rw [mergeQ, if_neg (by omega), if_neg (by omega)]
theorem mergeQ_nil (r : QP) : mergeQ [] r = r := by rw [mergeQ]
theorem mergeQ_nil2 (l : QP) : mergeQ l [] = l := by cases l <;> rw [mergeQ]
theorem okQ.mono : ∀ {l : QP} {a b : Int}, okQ b l → a ≤ b → okQ a l
 | [], _, _, _, _ => trivial
 | x :: r, a, b, h, hab => ⟨by have := h.1; omega, h.2⟩
theorem okQ_merge : ∀ {l r : QP} {a : Int}, okQ a l → okQ a r → okQ a (mergeQ l r)
 | [], r, a, _, hr => by rw [mergeQ_nil]; exact hr
 | x :: l, [], a, hl, _ => by rw [mergeQ_nil2]; exact hl
 | x :: l, y :: r, a, hl, hr => by
  obtain ⟨l1, l2, l3⟩ := hl
  obtain ⟨r1, r2, r3⟩ := hr
  by_cases h : x.2 < y.2
  ·rw [mergeQ_lt h]
   exact ⟨l1, l2, okQ_merge l3 ⟨h, r2, r3⟩⟩
  ·by_cases h2 : y.2 < x.2
   ·rw [mergeQ_gt h2]
    exact ⟨r1, r2, okQ_merge ⟨h2, l2, l3⟩ r3⟩
   ·have he : x.2 = y.2 := by omega
    rw [mergeQ_eq he]
    have hm : okQ x.2 (mergeQ l r) := okQ_merge l3 (by rw [he]; exact r3)
    split
    ·exact hm.mono (by omega)
    ·exact ⟨l1, by assumption, hm⟩
termination_by l r => l.length + r.length
def addQ (p q : Qo) : Qo := ⟨mergeQ p.ps q.ps, p.c + q.c⟩
def mulQ (k : Rat) (l : QP) : QP := l.map fun x => (x.1 * k, x.2)
theorem okQ_mul {k : Rat} (hk : k ≠ 0) : ∀ {l : QP} {a : Int}, okQ a l → okQ a (mulQ k l)
 | [], _, _ => trivial
 | x :: r, a, h => ⟨h.1, fun e => by rcases Rat.mul_eq_zero.1 e with e | e; exact h.2.1 e; exact hk e, okQ_mul hk h.2.2⟩
def scaleQ (p : Qo) (k : Rat) : Qo := ⟨if k = 0 then [] else mulQ k p.ps, p.c * k⟩
end Go.Proofs.YtcfklmjgofknjaaGreat
