/-
  Sums of fractions: the plain law. No conditions beyond the lemmas' own hypotheses.
-/
import Derived.Test.YtcfklmjgofknjaaGreatLinD
set_option linter.unusedSimpArgs false
set_option linter.unnecessarySimpa false
set_option linter.unusedVariables false
set_option linter.constructorNameAsVariable false

/-
 Sums of fractions, without memory: sums, multiples, values; no program in sight.
-/
namespace Go.Proofs.YtcfklmjgofknjaaGreat
open Go Go.Abs Go.Limbs
set_option maxRecDepth 20000
abbrev QP := List (Rat × Int)
def okQ : Int → QP → Prop
 | _, [] => True
 | a, x :: r => a < x.2 ∧ x.1 ≠ 0 ∧ okQ x.2 r
def ofA (x : Rat × Int) : Pa := ⟨ofQ x.1, x.2⟩
structure Qo where
 ps : QP
 c : Rat
def ofP (p : Qo) : Po := ⟨p.ps.map ofA, ofQ p.c⟩
def SmP (k : Nat) (l : QP) : Prop := ∀ x ∈ l, Sm k x.1
structure Qo.Is (p : Qo) (k : Nat) : Prop where
 ok : okQ (-1) p.ps
 sp : SmP k p.ps
 sc : Sm k p.c
theorem ofA_wf (x : Rat × Int) : (ofA x).wf := wf_ofQ _
theorem wfPs_of (l : QP) : wfPs (l.map ofA) := fun y hy => by
 obtain ⟨x, _, rfl⟩ := List.mem_map.1 hy
 exact ofA_wf x
theorem wf_ofP (p : Qo) : (ofP p).wf := ⟨wfPs_of _, wf_ofQ _⟩
theorem ofQ_n {q : Rat} : (ofQ q).n = [] ↔ q = 0 := by
 show limbs q.num.natAbs = [] ↔ q = 0
 rw [limbs_eq_nil, Int.natAbs_eq_zero, Rat.num_eq_zero]
theorem okParts_of : ∀ {l : QP} {a : Int}, okQ a l → SmP 64 l → okParts a (l.map ofA) = true
 | [], _, _, _ => rfl
 | x :: r, a, h, hs => by
  simp only [List.map_cons, okParts, Bool.and_eq_true, decide_eq_true_eq, Bool.not_eq_true', decide_eq_false_iff_not]
  exact ⟨⟨⟨h.1, ok_ofQ (hs x (by simp))⟩, fun e => h.2.1 (ofQ_n.1 e)⟩, okParts_of h.2.2 fun y hy => hs y (by simp [hy])⟩
theorem of_okParts : ∀ {l : List Pa} {a : Int}, okParts a l = true → ∃ m : QP, okQ a m ∧ SmP 64 m ∧ l = m.map ofA
 | [], _, _ => ⟨[], trivial, fun x hx => (by cases hx), rfl⟩
 | x :: r, a, h => by
  simp only [okParts, Bool.and_eq_true, decide_eq_true_eq, Bool.not_eq_true', decide_eq_false_iff_not] at h
  obtain ⟨⟨⟨h1, h2⟩, h3⟩, h4⟩ := h
  obtain ⟨m, m1, m2, rfl⟩ := of_okParts h4
  obtain ⟨q, hq, hx⟩ := Fr.ok_of h2
  obtain ⟨c, t⟩ := x
  simp only at hx h1 h3 m1
  subst hx
  exact ⟨(q, t) :: m, ⟨h1, fun e => h3 (ofQ_n.2 e), m1⟩, fun y hy => by
   rcases List.mem_cons.1 hy with rfl | hy
   ·exact hq
   ·exact m2 y hy, rfl⟩
theorem SmP.mono {j k : Nat} {l : QP} (h : SmP j l) (hk : j ≤ k) : SmP k l := fun x hx => Sm_mono (h x hx) hk
theorem Qo.Is.mono {p : Qo} {j k : Nat} (h : p.Is j) (hk : j ≤ k) : p.Is k := ⟨h.ok, h.sp.mono hk, Sm_mono h.sc hk⟩
theorem ok_ofP {p : Qo} (h : p.Is 64) : (ofP p).ok = true := by
 unfold Po.ok ofP
 rw [okParts_of h.ok h.sp, ok_ofQ h.sc]
 rfl
theorem po_of {p : Po} (h : p.ok = true) : ∃ q : Qo, q.Is 64 ∧ p = ofP q := by
 unfold Po.ok at h
 rw [Bool.and_eq_true] at h
 obtain ⟨m, m1, m2, m3⟩ := of_okParts h.1
 obtain ⟨c, c1, c2⟩ := Fr.ok_of h.2
 obtain ⟨ps, pc⟩ := p
 simp only at m3 c2
 subst m3 c2
 exact ⟨⟨m, c⟩, ⟨m1, m2, c1⟩, rfl⟩
def mergeQ : QP → QP → QP
 | [], r => r
 | x :: l, [] => x :: l
 | x :: l, y :: r =>
  if x.2 < y.2 then x :: mergeQ l (y :: r)
  else if y.2 < x.2 then y :: mergeQ (x :: l) r
  else if x.1 + y.1 = 0 then mergeQ l r else (x.1 + y.1, x.2) :: mergeQ l r
termination_by l r => l.length + r.length
theorem mergeQ_lt {x y : Rat × Int} {l r : QP} (h : x.2 < y.2) : mergeQ (x :: l) (y :: r) = x :: mergeQ l (y :: r) := by rw [mergeQ, if_pos h]
theorem mergeQ_gt {x y : Rat × Int} {l r : QP} (h : y.2 < x.2) : mergeQ (x :: l) (y :: r) = y :: mergeQ (x :: l) r := by rw [mergeQ, if_neg (by omega), if_pos h]
theorem mergeQ_eq {x y : Rat × Int} {l r : QP} (h : x.2 = y.2) : mergeQ (x :: l) (y :: r) = if x.1 + y.1 = 0 then mergeQ l r else (x.1 + y.1, x.2) :: mergeQ l r := by rw [mergeQ, if_neg (by omega), if_neg (by omega)]
theorem mergeQ_nil (r : QP) : mergeQ [] r = r := by rw [mergeQ]
theorem mergeQ_nil2 (l : QP) : mergeQ l [] = l := by cases l <;> rw [mergeQ]
theorem okQ.mono : ∀ {l : QP} {a b : Int}, okQ b l → a ≤ b → okQ a l
 | [], _, _, _, _ => trivial
 | x :: r, a, b, h, hab => ⟨by have := h.1; omega, h.2⟩
theorem okQ_merge : ∀ {l r : QP} {a : Int}, okQ a l → okQ a r → okQ a (mergeQ l r)
 | [], r, a, _, hr => by rw [mergeQ_nil]; exact hr
 | x :: l, [], a, hl, _ => by rw [mergeQ_nil2]; exact hl
 | x :: l, y :: r, a, hl, hr => by
  obtain ⟨l1, l2, l3⟩ := hl
  obtain ⟨r1, r2, r3⟩ := hr
  by_cases h : x.2 < y.2
  ·rw [mergeQ_lt h]
   exact ⟨l1, l2, okQ_merge l3 ⟨h, r2, r3⟩⟩
  ·by_cases h2 : y.2 < x.2
   ·rw [mergeQ_gt h2]
    exact ⟨r1, r2, okQ_merge ⟨h2, l2, l3⟩ r3⟩
   ·have he : x.2 = y.2 := by omega
    rw [mergeQ_eq he]
    have hm : okQ x.2 (mergeQ l r) := okQ_merge l3 (by rw [he]; exact r3)
    split
    ·exact hm.mono (by omega)
    ·exact ⟨l1, by assumption, hm⟩
termination_by l r => l.length + r.length
theorem SmP_merge {j k : Nat} : ∀ {l r : QP}, SmP j l → SmP k r → SmP (j + k + 1) (mergeQ l r)
 | [], r, _, hr => by rw [mergeQ_nil]; exact hr.mono (by omega)
 | x :: l, [], hl, _ => by rw [mergeQ_nil2]; exact hl.mono (by omega)
 | x :: l, y :: r, hl, hr => by
  have l1 := hl x (by simp)
  have r1 := hr y (by simp)
  have l2 : SmP j l := fun z hz => hl z (by simp [hz])
  have r2 : SmP k r := fun z hz => hr z (by simp [hz])
  have cons : ∀ {z : Rat × Int} {m : QP}, Sm (j + k + 1) z.1 → SmP (j + k + 1) m → SmP (j + k + 1) (z :: m) := fun h1 h2 w hw => by
   rcases List.mem_cons.1 hw with rfl | hw
   ·exact h1
   ·exact h2 w hw
  by_cases h : x.2 < y.2
  ·rw [mergeQ_lt h]
   exact cons (Sm_mono l1 (by omega)) (SmP_merge l2 hr)
  ·by_cases h2 : y.2 < x.2
   ·rw [mergeQ_gt h2]
    exact cons (Sm_mono r1 (by omega)) (SmP_merge hl r2)
   ·rw [mergeQ_eq (by omega)]
    split
    ·exact SmP_merge l2 r2
    ·exact cons (Sm_add l1 r1) (SmP_merge l2 r2)
termination_by l r => l.length + r.length
theorem merge_of {j k : Nat} (hjk : j + k + 1 ≤ 64) : ∀ {l r : QP}, SmP j l → SmP k r → mergeF (l.map ofA) (r.map ofA) = some ((mergeQ l r).map ofA)
 | [], r, _, _ => by rw [mergeQ_nil]; exact merge_nil _
 | x :: l, [], _, _ => by rw [mergeQ_nil2]; exact merge_nil2 _ _
 | x :: l, y :: r, hl, hr => by
  have l1 := hl x (by simp)
  have r1 := hr y (by simp)
  have l2 : SmP j l := fun z hz => hl z (by simp [hz])
  have r2 : SmP k r := fun z hz => hr z (by simp [hz])
  by_cases h : x.2 < y.2
  ·rw [mergeQ_lt h, List.map_cons, List.map_cons, merge_lt h, ← List.map_cons, merge_of hjk l2 hr]; rfl
  ·by_cases h2 : y.2 < x.2
   ·rw [mergeQ_gt h2, List.map_cons, List.map_cons, merge_gt h2, ← List.map_cons, merge_of hjk hl r2]; rfl
   ·have he : x.2 = y.2 := by omega
    have ha : addF (ofA x).c (ofA y).c = (ofQ (x.1 + y.1), 0) := by
     show addF (ofQ x.1) (ofQ y.1) = _
     rw [addF_num (Sm_mono l1 (by omega)) (Sm_mono r1 (by omega)), heldQ_ok (Sm_mono (Sm_add l1 r1) hjk)]
    rw [mergeQ_eq he, List.map_cons, List.map_cons, merge_eq he, ha, if_pos rfl, merge_of hjk l2 r2, Option.map_some]
    by_cases h0 : x.1 + y.1 = 0
    ·rw [if_pos h0, if_pos (ofQ_n.2 h0)]
    ·rw [if_neg h0, if_neg (fun e => h0 (ofQ_n.1 e))]; rfl
termination_by l r => l.length + r.length
def addQ (p q : Qo) : Qo := ⟨mergeQ p.ps q.ps, p.c + q.c⟩
theorem addQ_is {j k : Nat} {p q : Qo} (hp : p.Is j) (hq : q.Is k) : (addQ p q).Is (j + k + 1) := ⟨okQ_merge hp.ok hq.ok, SmP_merge hp.sp hq.sp, Sm_add hp.sc hq.sc⟩
theorem addPo_of {j k : Nat} {p q : Qo} (hp : p.Is j) (hq : q.Is k) (hjk : j + k + 1 ≤ 64) : addPo (ofP p) (ofP q) = (ofP (addQ p q), 0) := by
 unfold addPo
 rw [ok_ofP (hp.mono (by omega)), ok_ofP (hq.mono (by omega))]
 have ha : addF (ofP p).c (ofP q).c = (ofQ (p.c + q.c), 0) := by
  show addF (ofQ p.c) (ofQ q.c) = _
  rw [addF_num (Sm_mono hp.sc (by omega)) (Sm_mono hq.sc (by omega)), heldQ_ok (Sm_mono (Sm_add hp.sc hq.sc) hjk)]
 rw [ha]
 show withC _ (mergeF (p.ps.map ofA) (q.ps.map ofA)) = _
 rw [merge_of hjk hp.sp hq.sp]
 rfl
def mulQ (k : Rat) (l : QP) : QP := l.map fun x => (x.1 * k, x.2)
theorem okQ_mul {k : Rat} (hk : k ≠ 0) : ∀ {l : QP} {a : Int}, okQ a l → okQ a (mulQ k l)
 | [], _, _ => trivial
 | x :: r, a, h => ⟨h.1, fun e => by rcases Rat.mul_eq_zero.1 e with e | e; exact h.2.1 e; exact hk e, okQ_mul hk h.2.2⟩
theorem SmP_mul {j m : Nat} {k : Rat} (hk : Sm m k) {l : QP} (h : SmP j l) : SmP (j + m) (mulQ k l) := fun y hy => by
 obtain ⟨x, hx, rfl⟩ := List.mem_map.1 hy
 exact Sm_mul (h x hx) hk
theorem scale_of {j m : Nat} {k : Rat} (hk : Sm m k) (hjm : j + m ≤ 64) : ∀ {l : QP}, SmP j l → scaleF (ofQ k) (l.map ofA) = some ((mulQ k l).map ofA)
 | [], _ => rfl
 | x :: r, h => by
  have hm : mulF (ofA x).c (ofQ k) = (ofQ (x.1 * k), 0) := by
   show mulF (ofQ x.1) (ofQ k) = _
   rw [mulF_num (Sm_mono (h x (by simp)) (by omega)) (Sm_mono hk (by omega)), heldQ_ok (Sm_mono (Sm_mul (h x (by simp)) hk) hjm)]
  rw [List.map_cons]
  unfold scaleF
  rw [hm, if_pos rfl, scale_of hk hjm fun y hy => h y (by simp [hy])]
  rfl
def scaleQ (p : Qo) (k : Rat) : Qo := ⟨if k = 0 then [] else mulQ k p.ps, p.c * k⟩
theorem scaleQ_is {j m : Nat} {p : Qo} {k : Rat} (hp : p.Is j) (hk : Sm m k) : (scaleQ p k).Is (j + m) := by
 refine ⟨?_, ?_, Sm_mul hp.sc hk⟩
 ·show okQ (-1) (if k = 0 then [] else mulQ k p.ps)
  split
  ·trivial
  ·exact okQ_mul (by assumption) hp.ok
 ·show SmP (j + m) (if k = 0 then [] else mulQ k p.ps)
  split
  ·exact fun x hx => by cases hx
  ·exact SmP_mul hk hp.sp
theorem scalePo_of {j m : Nat} {p : Qo} {k : Rat} (hp : p.Is j) (hk : Sm m k) (hjm : j + m ≤ 64) : scalePo (ofP p) (ofQ k) = (ofP (scaleQ p k), 0) := by
 unfold scalePo
 rw [ok_ofP (hp.mono (by omega)), ok_ofQ (Sm_mono hk (by omega))]
 have hm : mulF (ofP p).c (ofQ k) = (ofQ (p.c * k), 0) := by
  show mulF (ofQ p.c) (ofQ k) = _
  rw [mulF_num (Sm_mono hp.sc (by omega)) (Sm_mono hk (by omega)), heldQ_ok (Sm_mono (Sm_mul hp.sc hk) hjm)]
 rw [hm]
 simp only [Bool.and_self, if_true]
 by_cases h0 : k = 0
 ·rw [if_pos (ofQ_n.2 h0)]
  unfold scaleQ ofP
  rw [if_pos h0]
  rfl
 ·rw [if_neg (fun e => h0 (ofQ_n.1 e))]
  show withC _ (scaleF (ofQ k) (p.ps.map ofA)) = _
  rw [scale_of hk hjm hp.sp]
  unfold scaleQ ofP
  rw [if_neg h0]
  rfl
end Go.Proofs.YtcfklmjgofknjaaGreat
