/-
  law8's awake; LinearSums answers true on all values. No conditions.
-/
import Derived.Test.YtgbjjikaenlkmaaGreatLinF
import Derived.Test.YtgbjjikaenlkmaaGreatLinG
set_option linter.unusedSimpArgs false
set_option linter.unnecessarySimpa false
set_option linter.unusedVariables false
set_option linter.constructorNameAsVariable false

/-
 law8: awake; LinearSums answers true.
-/
namespace Go.Proofs.YtgbjjikaenlkmaaGreat
open Go Go.Abs Go.Limbs
variable {base : Prot}
set_option maxRecDepth 20000
attribute [local irreducible] vc
attribute [local simp] pureS touchV freezeL fuel shiftV u64 au
def pw : Qo := ⟨[(2, 1), (-1, 4)], 3⟩
theorem add_lit {p q r : Rat} (hp : Sm 64 p) (hq : Sm 64 q) (hr : Sm 64 r) (e : p + q = r) : addF (ofQ p) (ofQ q) = (ofQ r, 0) := by rw [addF_num hp hq, e, heldQ_ok hr]
def sAwk : List PVal → Option PVal
 | [] => some (.bool true)
 | _ => none
end Go.Proofs.YtgbjjikaenlkmaaGreat

/-
 law8: LinearSums answers true.
-/
namespace Go.Proofs.YtgbjjikaenlkmaaGreat
open Go Go.Abs Go.Limbs
variable {base : Prot}
set_option maxRecDepth 20000
attribute [local irreducible] vc
attribute [local simp] pureS touchV freezeL fuel shiftV u64 au
theorem keepT {l m : Heap} {n : Nat} (h : l.take n = m.take n) (k : Nat) (hk : k < n) : l[k]? = m[k]? := by
 have h1 : (l.take n)[k]? = (m.take n)[k]? := by rw [h]
 rwa [List.getElem?_take, List.getElem?_take, if_pos hk, if_pos hk] at h1
theorem wfPs_merge : ∀ {l m r : List Pa}, wfPs l → wfPs m → mergeF l m = some r → wfPs r
 | [], m, r, _, hm, h => by
  rw [mergeF] at h; cases h; exact hm
 | x :: l, [], r, hl, _, h => by
  rw [mergeF] at h; cases h; exact hl
 | x :: l, y :: m, r, hl, hm, h => by
  have hx := hl x (by simp)
  have hy := hm y (by simp)
  have hl' : wfPs l := fun z hz => hl z (by simp [hz])
  have hm' : wfPs m := fun z hz => hm z (by simp [hz])
  rw [mergeF] at h
  split at h
  ·rw [Option.map_eq_some_iff] at h
   obtain ⟨s, hs, rfl⟩ := h
   exact List.forall_mem_cons.2 ⟨hx, wfPs_merge hl' hm hs⟩
  ·split at h
   ·rw [Option.map_eq_some_iff] at h
    obtain ⟨s, hs, rfl⟩ := h
    exact List.forall_mem_cons.2 ⟨hy, wfPs_merge hl hm' hs⟩
   ·split at h
    ·rw [Option.map_eq_some_iff] at h
     obtain ⟨s, hs, rfl⟩ := h
     have := wfPs_merge hl' hm' hs
     split
     ·exact this
     ·exact List.forall_mem_cons.2 ⟨wf_addF _ _, this⟩
    ·cases h
termination_by l m => l.length + m.length
theorem wfPs_scale {k : Fr} : ∀ {l r : List Pa}, scaleF k l = some r → wfPs r
 | [], r, h => by rw [scaleF] at h; cases h; exact fun x hx => (by cases hx)
 | x :: l, r, h => by
  rw [scaleF] at h
  split at h
  ·rw [Option.map_eq_some_iff] at h
   obtain ⟨s, hs, rfl⟩ := h
   exact List.forall_mem_cons.2 ⟨wf_mulF _ _, wfPs_scale hs⟩
  ·cases h
theorem wf_addPo {p q : Po} (hp : p.wf) (hq : q.wf) : (addPo p q).1.wf := by
 unfold addPo
 split
 ·split
  ·cases h : mergeF p.ps q.ps with
   | none => exact wf_zPo
   | some r => exact ⟨wfPs_merge hp.1 hq.1 h, wf_addF _ _⟩
  ·exact wf_zPo
 ·exact wf_zPo
theorem wf_scalePo (p : Po) (k : Fr) : (scalePo p k).1.wf := by
 unfold scalePo
 split
 ·split
  ·split
   ·exact ⟨fun x hx => (by cases hx), wf_mulF _ _⟩
   ·cases h : scaleF k p.ps with
    | none => exact wf_zPo
    | some r => exact ⟨wfPs_scale h, wf_mulF _ _⟩
  ·exact wf_zPo
 ·exact wf_zPo
end Go.Proofs.YtgbjjikaenlkmaaGreat
