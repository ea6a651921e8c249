/-
  AtomOpposites answers true on all values. No conditions.
-/
import Derived.Test.YtepfpgnjpkcgmaaGreatAtomD
import Derived.Test.YtepfpgnjpkcgmaaGreatAtomF
set_option linter.unusedSimpArgs false
set_option linter.unnecessarySimpa false
set_option linter.unusedVariables false
set_option linter.constructorNameAsVariable false

/-
 Values of sums of fractions: the plain law.
-/
namespace Go.Proofs.YtepfpgnjpkcgmaaGreat
open Go Go.Abs Go.Limbs
set_option maxRecDepth 20000
def sumQ (l : Int → Rat) : QP → Rat → Rat
 | [], s => s
 | x :: r, s => sumQ l r (s + x.1 * l x.2)
def lkQ (l : Int → Rat) : Int → Fr := fun i => ofQ (l i)
theorem heldQ_zero {q : Rat} (h : (heldQ q).2 = 0) : heldQ q = (ofQ q, 0) ∧ Sm 64 q := by
 unfold heldQ at h ⊢
 split
 ·exact ⟨rfl, by assumption⟩
 ·rename_i hn; rw [if_neg hn] at h; cases h
theorem sumF_step {lk : Int → Fr} {x : Pa} {r : List Pa} {s : Fr} {m : Fr × Nat} (hm : mulF x.c (lk x.t) = m) : sumF lk (x :: r) s = if m.2 = 0 then (if (addF s m.1).2 = 0 then sumF lk r (addF s m.1).1 else (zF, 4)) else (zF, 4) := by subst hm; rfl
theorem sumF_st {l : Int → Rat} {x : Rat × Int} {r : QP} {s : Rat} (hx : Sm 64 x.1) (hl : Sm 64 (l x.2)) (hs : Sm 64 s) :
  sumF (lkQ l) ((x :: r).map ofA) (ofQ s) = if Sm 64 (x.1 * l x.2) ∧ Sm 64 (s + x.1 * l x.2) then sumF (lkQ l) (r.map ofA) (ofQ (s + x.1 * l x.2)) else (zF, 4) := by
 have hm : mulF (ofA x).c (lkQ l (ofA x).t) = heldQ (x.1 * l x.2) := by
  show mulF (ofQ x.1) (ofQ (l x.2)) = _
  exact mulF_num hx hl
 rw [List.map_cons, sumF_step hm]
 by_cases h1 : Sm 64 (x.1 * l x.2)
 ·rw [heldQ_ok h1]
  simp only [if_true]
  rw [addF_num hs h1]
  by_cases h2 : Sm 64 (s + x.1 * l x.2)
  ·rw [heldQ_ok h2, if_pos (show Sm 64 (x.1 * l x.2) ∧ Sm 64 (s + x.1 * l x.2) from ⟨h1, h2⟩)]
   simp only [if_true]
  ·rw [if_neg (show ¬ (Sm 64 (x.1 * l x.2) ∧ Sm 64 (s + x.1 * l x.2)) from fun h => h2 h.2), show heldQ (s + x.1 * l x.2) = (zF, 4) from if_neg h2]
   exact if_neg (by decide : ¬ (4 : Nat) = 0)
 ·rw [if_neg (show ¬ (Sm 64 (x.1 * l x.2) ∧ Sm 64 (s + x.1 * l x.2)) from fun h => h1 h.1), show heldQ (x.1 * l x.2) = (zF, 4) from if_neg h1]
  exact if_neg (by decide : ¬ (4 : Nat) = 0)
theorem sumF_of {l : Int → Rat} (hl : ∀ i, Sm 64 (l i)) : ∀ {ps : QP} {s : Rat}, SmP 64 ps → Sm 64 s → (sumF (lkQ l) (ps.map ofA) (ofQ s)).2 = 0 → sumF (lkQ l) (ps.map ofA) (ofQ s) = (ofQ (sumQ l ps s), 0) ∧ Sm 64 (sumQ l ps s)
 | [], s, _, hs, _ => ⟨rfl, hs⟩
 | x :: r, s, hp, hs, h => by
  rw [sumF_st (hp x (by simp)) (hl _) hs] at h ⊢
  split at h
  ·rename_i h1
   rw [if_pos h1]
   exact sumF_of hl (fun y hy => hp y (by simp [hy])) h1.2 h
  ·cases h
def valQ (l : Int → Rat) (P : Qo) : Rat := sumQ l P.ps P.c
theorem value_of {l : Int → Rat} (hl : ∀ i, Sm 64 (l i)) {P : Qo} (hP : P.Is 64) (h : (valuePo (lkQ l) (ofP P)).2 = 0) : valuePo (lkQ l) (ofP P) = (ofQ (valQ l P), 0) ∧ Sm 64 (valQ l P) := by
 have ha : ((ofP P).ps.all fun x => (lkQ l x.t).ok) = true := List.all_eq_true.2 fun x _ => ok_ofQ (hl _)
 unfold valuePo at h ⊢
 rw [ok_ofP hP, ha] at h ⊢
 exact sumF_of hl hP.sp hP.sc h
end Go.Proofs.YtepfpgnjpkcgmaaGreat

/-
 law9: AtomOpposites answers true.
-/
namespace Go.Proofs.YtepfpgnjpkcgmaaGreat
open Go Go.Abs Go.Limbs
variable {base : Prot}
set_option maxRecDepth 20000
attribute [local irreducible] vc
attribute [local simp] pureS touchV freezeL fuel shiftV u64 au
end Go.Proofs.YtepfpgnjpkcgmaaGreat
