/-
  What an open row asks of its arguments. No conditions beyond the lemmas' own hypotheses.
-/
import Derived.Test.YtgbjjikaenlkmaaGreatAtomB
import Derived.Test.YtgbjjikaenlkmaaGreatAbsThree
import Derived.Test.YtgbjjikaenlkmaaGreatNatH
import Derived.Test.YtgbjjikaenlkmaaGreatRows
import Derived.ProofKit
import Derived.OpenShut
set_option linter.unusedSimpArgs false
set_option linter.unnecessarySimpa false
set_option linter.unusedVariables false
set_option linter.constructorNameAsVariable false

namespace Go.Proofs.YtgbjjikaenlkmaaGreat
open Go Go.Abs Go.ChangeShapes Go.WideShapes Go.ChangeAt Go.WideMaps Go.WideElems Go.RowKit Go.Limbs
set_option maxRecDepth 100000
def base0 : Prot := fun _ _ => none
theorem of_any {W : World} : Prot.le base0 (vu W) := fun _ _ _ h => by cases h
theorem own : ownKnob Tryz.prog.godebug = none := by kernel_rfl
theorem laidOut : laidOutB Tryz.prog = true := by kernel_rfl
theorem hasList {α : Type} {enc : α → PVal} {wf : α → Prop} {P : Program} {n : Nat} {t e : TypeId} {ps : List PVal} (ht : P.underlying t = some (.slice e))
  (key : ∀ c, vw P n e c → ∃ x, wf x ∧ uj (isS P e) c = enc x) (h : vw P (n + 1) t ps) : ∃ l : List α, (∀ x ∈ l, wf x) ∧ ps = [.lst (l.map enc)] := by
 unfold vw at h
 simp only [ht] at h
 obtain ⟨l, rfl, hl⟩ := h
 induction l with
 | nil => exact ⟨[], fun x hx => (by cases hx), rfl⟩
 | cons c r ih =>
  obtain ⟨k, hk, e1⟩ := key c (hl c (by simp))
  obtain ⟨m, wm, e2⟩ := ih fun x hx => hl x (by simp [hx])
  refine ⟨k :: m, List.forall_mem_cons.2 ⟨hk, wm⟩, ?_⟩
  simp only [List.cons.injEq, PVal.lst.injEq, and_true] at e2
  rw [List.map_cons, List.map_cons, e1, e2]
section
variable {n : Nat} {c : List PVal}
theorem hasInt (h : vw Tryz.prog (n + 1) 3 c) : ∃ z, (-9223372036854775808 ≤ z ∧ z < 9223372036854775808) ∧ c = [.int .i64 z] := by
 unfold vw at h
 simp only [Tryz.underlying3] at h
 obtain ⟨z, rfl, h1, h2⟩ := h
 have hmin : IntKind.i64.min = -9223372036854775808 := rfl
 have hmax : IntKind.i64.max = 9223372036854775807 := rfl
 rw [hmin] at h1
 rw [hmax] at h2
 exact ⟨z, by omega, rfl⟩
end
section
variable {H : Type} {enc : TypeId × Value → H} {W : World} {sp : Nat → Bool} {v : Value} {d : DataW H} {ps : List MemPlace} {r : Reach} {b0 : Nat}
set_option maxRecDepth 100000
theorem tz (hv : Value.okWide Tryz.prog W r b0 22 v) (h : DataW.Trod enc Tryz.prog W 0 sp true 22 v d ps) :
  ∃ l : List Int, (∀ z ∈ l, -9223372036854775808 ≤ z ∧ z < 9223372036854775808) ∧ PRep (vu W) (.lst (l.map cI.enc)) v := by
 obtain ⟨c, hc, hp⟩ := prep_val (n := 3) (by kernel_rfl : jp Tryz.prog 3 22 = true) hv h
 have hS : isS Tryz.prog 22 = false := by unfold isS; rw [Tryz.underlying22]
 have hE : isS Tryz.prog 3 = false := by unfold isS; rw [Tryz.underlying3]
 rw [hS] at hp
 obtain ⟨l, wl, rfl⟩ := hasList (enc := cI.enc) (wf := fun z => -9223372036854775808 ≤ z ∧ z < 9223372036854775808) Tryz.underlying22 (fun c h => by
  rw [hE]
  obtain ⟨z, hz, rfl⟩ := hasInt (n := 1) h
  exact ⟨z, hz, rfl⟩) hc
 exact ⟨l, wl, hp⟩
end
end Go.Proofs.YtgbjjikaenlkmaaGreat
