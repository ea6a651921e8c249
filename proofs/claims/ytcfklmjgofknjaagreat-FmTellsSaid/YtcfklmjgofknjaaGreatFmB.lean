/-
  Bounds of small sums: the plain law. No conditions beyond the lemmas' own hypotheses.
-/
import Derived.Test.YtcfklmjgofknjaaGreatFmA
set_option linter.unusedSimpArgs false
set_option linter.unnecessarySimpa false
set_option linter.unusedVariables false
set_option linter.constructorNameAsVariable false

/-
 law23: small sums: what Two leaves of two bounds in two terms.
-/
namespace Go.Proofs.YtcfklmjgofknjaaGreat
open Go Go.Abs Go.Limbs
set_option maxRecDepth 20000
def lq (c d k : Int) : Qo := ⟨(if c = 0 then [] else [((c : Rat), 3)]) ++ (if d = 0 then [] else [((d : Rat), 4)]), (k : Rat)⟩
def In34 (P : Qo) : Prop := ∀ x ∈ P.ps, x.2 = 3 ∨ x.2 = 4
end Go.Proofs.YtcfklmjgofknjaaGreat

/-
 law23: the laws of two small bounds, of an equation, of a hole, of a bound: the plain laws.
-/
namespace Go.Proofs.YtcfklmjgofknjaaGreat
open Go Go.Abs Go.Limbs
set_option maxRecDepth 20000
def leA (c d k : Int) (st : Bool) : At := (makeAt (kdOf st) (ofP (lq c d k))).1
structure LeV (c d k : Int) (st : Bool) (A : Qo) : Prop where
 eq : leA c d k st = atQ (kdOf st) A
 is : A.Is 3
 can : Can (kdOf st) A
 ok : (atQ (kdOf st) A).ok = true
 inn : In34 A
 co : coefQ 3 A.ps * ((c.natAbs : Int) : Rat) = (c : Rat)
 val : ∀ l : Int → Rat, valQ l A * ((c.natAbs : Int) : Rat) = (c : Rat) * l 3 + (d : Rat) * l 4 + (k : Rat)
end Go.Proofs.YtcfklmjgofknjaaGreat

/-
 law23: an equation and a bound; a bound at its own value and above it; a hole: the plain laws.
-/
namespace Go.Proofs.YtcfklmjgofknjaaGreat
open Go Go.Abs Go.Limbs
set_option maxRecDepth 20000
def eqA (d k : Int) : At := (makeAt 3 (ofP (lq 1 d k))).1
end Go.Proofs.YtcfklmjgofknjaaGreat
