/-
  Sums of fractions: the plain law. No conditions beyond the lemmas' own hypotheses.
-/
import Derived.Test.YtgbjjikaenlkmaaGreatLinD
set_option linter.unusedSimpArgs false
set_option linter.unnecessarySimpa false
set_option linter.unusedVariables false
set_option linter.constructorNameAsVariable false

/-
 Sums of fractions, without memory: sums, multiples, values; no program in sight.
-/
namespace Go.Proofs.YtgbjjikaenlkmaaGreat
open Go Go.Abs Go.Limbs
set_option maxRecDepth 20000
abbrev QP := List (Rat × Int)
def okQ : Int → QP → Prop
 | _, [] => True
 | a, x :: r => a < x.2 ∧ x.1 ≠ 0 ∧ okQ x.2 r
structure Qo where
 ps : QP
 c : Rat
def SmP (k : Nat) (l : QP) : Prop := ∀ x ∈ l, Sm k x.1
structure Qo.Is (p : Qo) (k : Nat) : Prop where
 ok : okQ (-1) p.ps
 sp : SmP k p.ps
 sc : Sm k p.c
theorem SmP.mono {j k : Nat} {l : QP} (h : SmP j l) (hk : j ≤ k) : SmP k l := fun x hx => Sm_mono (h x hx) hk
theorem Qo.Is.mono {p : Qo} {j k : Nat} (h : p.Is j) (hk : j ≤ k) : p.Is k := ⟨h.ok, h.sp.mono hk, Sm_mono h.sc hk⟩
theorem okQ.mono : ∀ {l : QP} {a b : Int}, okQ b l → a ≤ b → okQ a l
 | [], _, _, _, _ => trivial
 | x :: r, a, b, h, hab => ⟨by have := h.1; omega, h.2⟩
end Go.Proofs.YtgbjjikaenlkmaaGreat
