/-
  Sums of fractions: the plain law. No conditions beyond the lemmas' own hypotheses.
-/
import Derived.Test.YtepfpgnjpkcgmaaGreatLinD
set_option linter.unusedSimpArgs false
set_option linter.unnecessarySimpa false
set_option linter.unusedVariables false
set_option linter.constructorNameAsVariable false

/-
  Sums of fractions, without memory: sums, multiples, values; no program in sight.
-/
namespace Go.Proofs.YtepfpgnjpkcgmaaGreat
open Go Go.Abs Go.Limbs
set_option maxRecDepth 20000
abbrev QP := List (Rat × Int)
/-- Rising terms, numbers that are not 0. -/
def okQ : Int → QP → Prop
  | _, [] => True
  | a, x :: r => a < x.2 ∧ x.1 ≠ 0 ∧ okQ x.2 r
def ofA (x : Rat × Int) : Pa := ⟨ofQ x.1, x.2⟩
structure Qo where
  ps : QP
  c : Rat
def ofP (p : Qo) : Po := ⟨p.ps.map ofA, ofQ p.c⟩
/-- A sum, no number of which has more limbs. -/
def SmP (k : Nat) (l : QP) : Prop := ∀ x ∈ l, Sm k x.1
structure Qo.Is (p : Qo) (k : Nat) : Prop where
  ok : okQ (-1) p.ps
  sp : SmP k p.ps
  sc : Sm k p.c
theorem ofA_wf (x : Rat × Int) : (ofA x).wf := wf_ofQ _
theorem wfPs_of (l : QP) : wfPs (l.map ofA) := fun y hy => by
  obtain ⟨x, _, rfl⟩ := List.mem_map.1 hy
  exact ofA_wf x
theorem wf_ofP (p : Qo) : (ofP p).wf := ⟨wfPs_of _, wf_ofQ _⟩
theorem ofQ_n {q : Rat} : (ofQ q).n = [] ↔ q = 0 := by
  show limbs q.num.natAbs = [] ↔ q = 0
  rw [limbs_eq_nil, Int.natAbs_eq_zero, Rat.num_eq_zero]
theorem okParts_of : ∀ {l : QP} {a : Int}, okQ a l → SmP 64 l → okParts a (l.map ofA) = true
  | [], _, _, _ => rfl
  | x :: r, a, h, hs => by
    simp only [List.map_cons, okParts, Bool.and_eq_true, decide_eq_true_eq, Bool.not_eq_true', decide_eq_false_iff_not]
    exact ⟨⟨⟨h.1, ok_ofQ (hs x (by simp))⟩, fun e => h.2.1 (ofQ_n.1 e)⟩, okParts_of h.2.2 fun y hy => hs y (by simp [hy])⟩
theorem SmP.mono {j k : Nat} {l : QP} (h : SmP j l) (hk : j ≤ k) : SmP k l := fun x hx => Sm_mono (h x hx) hk
theorem Qo.Is.mono {p : Qo} {j k : Nat} (h : p.Is j) (hk : j ≤ k) : p.Is k := ⟨h.ok, h.sp.mono hk, Sm_mono h.sc hk⟩
theorem ok_ofP {p : Qo} (h : p.Is 64) : (ofP p).ok = true := by
  unfold Po.ok ofP
  rw [okParts_of h.ok h.sp, ok_ofQ h.sc]
  rfl
/-! ### Sums -/
def mergeQ : QP → QP → QP
  | [], r => r
  | x :: l, [] => x :: l
  | x :: l, y :: r =>
    if x.2 < y.2 then x :: mergeQ l (y :: r)
    else if y.2 < x.2 then y :: mergeQ (x :: l) r
    else if x.1 + y.1 = 0 then mergeQ l r else (x.1 + y.1, x.2) :: mergeQ l r
termination_by l r => l.length + r.length
theorem mergeQ_lt {x y : Rat × Int} {l r : QP} (h : x.2 < y.2) : mergeQ (x :: l) (y :: r) = x :: mergeQ l (y :: r) := by rw [mergeQ, if_pos h]
theorem mergeQ_gt {x y : Rat × Int} {l r : QP} (h : y.2 < x.2) : mergeQ (x :: l) (y :: r) = y :: mergeQ (x :: l) r := by rw [mergeQ, if_neg (by omega), if_pos h]
theorem mergeQ_eq {x y : Rat × Int} {l r : QP} (h : x.2 = y.2) : mergeQ (x :: l) (y :: r) = if x.1 + y.1 = 0 then mergeQ l r else (x.1 + y.1, x.2) :: mergeQ l r := by rw [mergeQ, if_neg (by omega), if_neg (by omega)]
theorem mergeQ_nil (r : QP) : mergeQ [] r = r := by rw [mergeQ]
theorem mergeQ_nil2 (l : QP) : mergeQ l [] = l := by cases l <;> rw [mergeQ]
theorem okQ.mono : ∀ {l : QP} {a b : Int}, okQ b l → a ≤ b → okQ a l
  | [], _, _, _, _ => trivial
  | x :: r, a, b, h, hab => ⟨by have := h.1; omega, h.2⟩
theorem merge_of {j k : Nat} (hjk : j + k + 1 ≤ 64) : ∀ {l r : QP}, SmP j l → SmP k r → mergeF (l.map ofA) (r.map ofA) = some ((mergeQ l r).map ofA)
  | [], r, _, _ => by rw [mergeQ_nil]; exact merge_nil _
  | x :: l, [], _, _ => by rw [mergeQ_nil2]; exact merge_nil2 _ _
  | x :: l, y :: r, hl, hr => by
    have l1 := hl x (by simp)
    have r1 := hr y (by simp)
    have l2 : SmP j l := fun z hz => hl z (by simp [hz])
    have r2 : SmP k r := fun z hz => hr z (by simp [hz])
    by_cases h : x.2 < y.2
    · rw [mergeQ_lt h, List.map_cons, List.map_cons, merge_lt h, ← List.map_cons, merge_of hjk l2 hr]; rfl
    · by_cases h2 : y.2 < x.2
      · rw [mergeQ_gt h2, List.map_cons, List.map_cons, merge_gt h2, ← List.map_cons, merge_of hjk hl r2]; rfl
      · have he : x.2 = y.2 := by omega
        have ha : addF (ofA x).c (ofA y).c = (ofQ (x.1 + y.1), 0) := by
          show addF (ofQ x.1) (ofQ y.1) = _
          rw [addF_num (Sm_mono l1 (by omega)) (Sm_mono r1 (by omega)), heldQ_ok (Sm_mono (Sm_add l1 r1) hjk)]
        rw [mergeQ_eq he, List.map_cons, List.map_cons, merge_eq he, ha, if_pos rfl, merge_of hjk l2 r2, Option.map_some]
        by_cases h0 : x.1 + y.1 = 0
        · rw [if_pos h0, if_pos (ofQ_n.2 h0)]
        · rw [if_neg h0, if_neg (fun e => h0 (ofQ_n.1 e))]; rfl
termination_by l r => l.length + r.length
def addQ (p q : Qo) : Qo := ⟨mergeQ p.ps q.ps, p.c + q.c⟩
theorem addPo_of {j k : Nat} {p q : Qo} (hp : p.Is j) (hq : q.Is k) (hjk : j + k + 1 ≤ 64) : addPo (ofP p) (ofP q) = (ofP (addQ p q), 0) := by
  unfold addPo
  rw [ok_ofP (hp.mono (by omega)), ok_ofP (hq.mono (by omega))]
  have ha : addF (ofP p).c (ofP q).c = (ofQ (p.c + q.c), 0) := by
    show addF (ofQ p.c) (ofQ q.c) = _
    rw [addF_num (Sm_mono hp.sc (by omega)) (Sm_mono hq.sc (by omega)), heldQ_ok (Sm_mono (Sm_add hp.sc hq.sc) hjk)]
  rw [ha]
  show withC _ (mergeF (p.ps.map ofA) (q.ps.map ofA)) = _
  rw [merge_of hjk hp.sp hq.sp]
  rfl
/-! ### Multiples -/
def mulQ (k : Rat) (l : QP) : QP := l.map fun x => (x.1 * k, x.2)
theorem scale_of {j m : Nat} {k : Rat} (hk : Sm m k) (hjm : j + m ≤ 64) : ∀ {l : QP}, SmP j l → scaleF (ofQ k) (l.map ofA) = some ((mulQ k l).map ofA)
  | [], _ => rfl
  | x :: r, h => by
    have hm : mulF (ofA x).c (ofQ k) = (ofQ (x.1 * k), 0) := by
      show mulF (ofQ x.1) (ofQ k) = _
      rw [mulF_num (Sm_mono (h x (by simp)) (by omega)) (Sm_mono hk (by omega)), heldQ_ok (Sm_mono (Sm_mul (h x (by simp)) hk) hjm)]
    rw [List.map_cons]
    unfold scaleF
    rw [hm, if_pos rfl, scale_of hk hjm fun y hy => h y (by simp [hy])]
    rfl
def scaleQ (p : Qo) (k : Rat) : Qo := ⟨if k = 0 then [] else mulQ k p.ps, p.c * k⟩
theorem scalePo_of {j m : Nat} {p : Qo} {k : Rat} (hp : p.Is j) (hk : Sm m k) (hjm : j + m ≤ 64) : scalePo (ofP p) (ofQ k) = (ofP (scaleQ p k), 0) := by
  unfold scalePo
  rw [ok_ofP (hp.mono (by omega)), ok_ofQ (Sm_mono hk (by omega))]
  have hm : mulF (ofP p).c (ofQ k) = (ofQ (p.c * k), 0) := by
    show mulF (ofQ p.c) (ofQ k) = _
    rw [mulF_num (Sm_mono hp.sc (by omega)) (Sm_mono hk (by omega)), heldQ_ok (Sm_mono (Sm_mul hp.sc hk) hjm)]
  rw [hm]
  simp only [Bool.and_self, if_true]
  by_cases h0 : k = 0
  · rw [if_pos (ofQ_n.2 h0)]
    unfold scaleQ ofP
    rw [if_pos h0]
    rfl
  · rw [if_neg (fun e => h0 (ofQ_n.1 e))]
    show withC _ (scaleF (ofQ k) (p.ps.map ofA)) = _
    rw [scale_of hk hjm hp.sp]
    unfold scaleQ ofP
    rw [if_neg h0]
    rfl
end Go.Proofs.YtepfpgnjpkcgmaaGreat
