/-
  Sums of fractions: the plain law. No conditions beyond the lemmas' own hypotheses.
-/
import Derived.Test.YtepfpgnjpkcgmaaGreatLinD
set_option linter.unusedSimpArgs false
set_option linter.unnecessarySimpa false
set_option linter.unusedVariables false
set_option linter.constructorNameAsVariable false

/-
  Sums of fractions, without memory: sums, multiples, values; no program in sight.
-/
namespace Go.Proofs.YtepfpgnjpkcgmaaGreat
open Go Go.Abs Go.Limbs
set_option maxRecDepth 20000
abbrev QP := List (Rat × Int)
/-- Rising terms, numbers that are not 0. -/
def okQ : Int → QP → Prop
  | _, [] => True
  | a, x :: r => a < x.2 ∧ x.1 ≠ 0 ∧ okQ x.2 r
def ofA (x : Rat × Int) : Pa := ⟨ofQ x.1, x.2⟩
structure Qo where
  ps : QP
  c : Rat
def ofP (p : Qo) : Po := ⟨p.ps.map ofA, ofQ p.c⟩
/-- A sum, no number of which has more limbs. -/
def SmP (k : Nat) (l : QP) : Prop := ∀ x ∈ l, Sm k x.1
structure Qo.Is (p : Qo) (k : Nat) : Prop where
  ok : okQ (-1) p.ps
  sp : SmP k p.ps
  sc : Sm k p.c
theorem ofA_wf (x : Rat × Int) : (ofA x).wf := wf_ofQ _
theorem wfPs_of (l : QP) : wfPs (l.map ofA) := fun y hy => by
  obtain ⟨x, _, rfl⟩ := List.mem_map.1 hy
  exact ofA_wf x
theorem wf_ofP (p : Qo) : (ofP p).wf := ⟨wfPs_of _, wf_ofQ _⟩
theorem ofQ_n {q : Rat} : (ofQ q).n = [] ↔ q = 0 := by
  show limbs q.num.natAbs = [] ↔ q = 0
  rw [limbs_eq_nil, Int.natAbs_eq_zero, Rat.num_eq_zero]
theorem okParts_of : ∀ {l : QP} {a : Int}, okQ a l → SmP 64 l → okParts a (l.map ofA) = true
  | [], _, _, _ => rfl
  | x :: r, a, h, hs => by
    simp only [List.map_cons, okParts, Bool.and_eq_true, decide_eq_true_eq, Bool.not_eq_true', decide_eq_false_iff_not]
    exact ⟨⟨⟨h.1, ok_ofQ (hs x (by simp))⟩, fun e => h.2.1 (ofQ_n.1 e)⟩, okParts_of h.2.2 fun y hy => hs y (by simp [hy])⟩
theorem of_okParts : ∀ {l : List Pa} {a : Int}, okParts a l = true → ∃ m : QP, okQ a m ∧ SmP 64 m ∧ l = m.map ofA
  | [], _, _ => ⟨[], trivial, fun x hx => (by cases hx), rfl⟩
  | x :: r, a, h => by
    simp only [okParts, Bool.and_eq_true, decide_eq_true_eq, Bool.not_eq_true', decide_eq_false_iff_not] at h
    obtain ⟨⟨⟨h1, h2⟩, h3⟩, h4⟩ := h
    obtain ⟨m, m1, m2, rfl⟩ := of_okParts h4
    obtain ⟨q, hq, hx⟩ := Fr.ok_of h2
    obtain ⟨c, t⟩ := x
    simp only at hx h1 h3 m1
    subst hx
    exact ⟨(q, t) :: m, ⟨h1, fun e => h3 (ofQ_n.2 e), m1⟩, fun y hy => by
      rcases List.mem_cons.1 hy with rfl | hy
      · exact hq
      · exact m2 y hy, rfl⟩
theorem SmP.mono {j k : Nat} {l : QP} (h : SmP j l) (hk : j ≤ k) : SmP k l := fun x hx => Sm_mono (h x hx) hk
theorem Qo.Is.mono {p : Qo} {j k : Nat} (h : p.Is j) (hk : j ≤ k) : p.Is k := ⟨h.ok, h.sp.mono hk, Sm_mono h.sc hk⟩
theorem ok_ofP {p : Qo} (h : p.Is 64) : (ofP p).ok = true := by
  unfold Po.ok ofP
  rw [okParts_of h.ok h.sp, ok_ofQ h.sc]
  rfl
theorem po_of {p : Po} (h : p.ok = true) : ∃ q : Qo, q.Is 64 ∧ p = ofP q := by
  unfold Po.ok at h
  rw [Bool.and_eq_true] at h
  obtain ⟨m, m1, m2, m3⟩ := of_okParts h.1
  obtain ⟨c, c1, c2⟩ := Fr.ok_of h.2
  obtain ⟨ps, pc⟩ := p
  simp only at m3 c2
  subst m3 c2
  exact ⟨⟨m, c⟩, ⟨m1, m2, c1⟩, rfl⟩
theorem Sm_of_few {q : Rat} {k : Nat} (h1 : (ofQ q).n.length ≤ k) (h2 : (ofQ q).d.length ≤ k) : Sm k q := ⟨h1, h2⟩
/-! ### Sums -/
theorem okQ.mono : ∀ {l : QP} {a b : Int}, okQ b l → a ≤ b → okQ a l
  | [], _, _, _, _ => trivial
  | x :: r, a, b, h, hab => ⟨by have := h.1; omega, h.2⟩
/-! ### Multiples -/
def mulQ (k : Rat) (l : QP) : QP := l.map fun x => (x.1 * k, x.2)
theorem okQ_mul {k : Rat} (hk : k ≠ 0) : ∀ {l : QP} {a : Int}, okQ a l → okQ a (mulQ k l)
  | [], _, _ => trivial
  | x :: r, a, h => ⟨h.1, fun e => by rcases Rat.mul_eq_zero.1 e with e | e; exact h.2.1 e; exact hk e, okQ_mul hk h.2.2⟩
theorem SmP_mul {j m : Nat} {k : Rat} (hk : Sm m k) {l : QP} (h : SmP j l) : SmP (j + m) (mulQ k l) := fun y hy => by
  obtain ⟨x, hx, rfl⟩ := List.mem_map.1 hy
  exact Sm_mul (h x hx) hk
theorem scale_of {j m : Nat} {k : Rat} (hk : Sm m k) (hjm : j + m ≤ 64) : ∀ {l : QP}, SmP j l → scaleF (ofQ k) (l.map ofA) = some ((mulQ k l).map ofA)
  | [], _ => rfl
  | x :: r, h => by
    have hm : mulF (ofA x).c (ofQ k) = (ofQ (x.1 * k), 0) := by
      show mulF (ofQ x.1) (ofQ k) = _
      rw [mulF_num (Sm_mono (h x (by simp)) (by omega)) (Sm_mono hk (by omega)), heldQ_ok (Sm_mono (Sm_mul (h x (by simp)) hk) hjm)]
    rw [List.map_cons]
    unfold scaleF
    rw [hm, if_pos rfl, scale_of hk hjm fun y hy => h y (by simp [hy])]
    rfl
def scaleQ (p : Qo) (k : Rat) : Qo := ⟨if k = 0 then [] else mulQ k p.ps, p.c * k⟩
theorem scaleQ_is {j m : Nat} {p : Qo} {k : Rat} (hp : p.Is j) (hk : Sm m k) : (scaleQ p k).Is (j + m) := by
  refine ⟨?_, ?_, Sm_mul hp.sc hk⟩
  · show okQ (-1) (if k = 0 then [] else mulQ k p.ps)
    split
    · trivial
    · exact okQ_mul (by assumption) hp.ok
  · show SmP (j + m) (if k = 0 then [] else mulQ k p.ps)
    split
    · exact fun x hx => by cases hx
    · exact SmP_mul hk hp.sp
theorem scalePo_of {j m : Nat} {p : Qo} {k : Rat} (hp : p.Is j) (hk : Sm m k) (hjm : j + m ≤ 64) : scalePo (ofP p) (ofQ k) = (ofP (scaleQ p k), 0) := by
  unfold scalePo
  rw [ok_ofP (hp.mono (by omega)), ok_ofQ (Sm_mono hk (by omega))]
  have hm : mulF (ofP p).c (ofQ k) = (ofQ (p.c * k), 0) := by
    show mulF (ofQ p.c) (ofQ k) = _
    rw [mulF_num (Sm_mono hp.sc (by omega)) (Sm_mono hk (by omega)), heldQ_ok (Sm_mono (Sm_mul hp.sc hk) hjm)]
  rw [hm]
  simp only [Bool.and_self, if_true]
  by_cases h0 : k = 0
  · rw [if_pos (ofQ_n.2 h0)]
    unfold scaleQ ofP
    rw [if_pos h0]
    rfl
  · rw [if_neg (fun e => h0 (ofQ_n.1 e))]
    show withC _ (scaleF (ofQ k) (p.ps.map ofA)) = _
    rw [scale_of hk hjm hp.sp]
    unfold scaleQ ofP
    rw [if_neg h0]
    rfl
theorem len_scale (p : Qo) (k : Rat) : (scaleQ p k).ps.length ≤ p.ps.length := by
  show (if k = 0 then [] else mulQ k p.ps).length ≤ _
  split
  · simp
  · simp [mulQ]
end Go.Proofs.YtepfpgnjpkcgmaaGreat
