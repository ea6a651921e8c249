/-
  What open rows of floats ask of their arguments. AcvNo conditions beyond the lemmas' own hypotheses.
-/
import Derived.Test.YtbdccebpehogjaaRatA
import Derived.Test.YtbdccebpehogjaaAbsThree
import Derived.Test.YtbdccebpehogjaaRows
import Derived.ProofKit
import Derived.Laws.Cover2
import Derived.OpenShut
set_option linter.unusedSimpArgs false
set_option linter.unnecessarySimpa false
set_option linter.unusedVariables false
set_option linter.constructorNameAsVariable false

/-
 What open rows of floats ask of their arguments: fractions, ints, floats.
-/
namespace Go.Proofs.Ytbdccebpehogjaa
open Go Go.Abs Go.ChangeShapes Go.WideShapes Go.ChangeAt Go.WideMaps Go.WideElems Go.RowKit Go.Limbs
set_option maxRecDepth 100000
def base0 : Prot := fun _ _ => none
theorem of_any {W : World} : Prot.le base0 (allCells W) := fun _ _ _ h => by cases h
theorem own : ownKnob Try.prog.godebug = none := by kernel_rfl
theorem laidOut : laidOutB Try.prog = true := by kernel_rfl
theorem hasFs3 {h : TypeId → List PVal → Prop} {a b c : TypeId} {ps : List PVal} (H : HasFs h [a, b, c] ps) : ∃ p q r, ps = p ++ (q ++ (r ++ [])) ∧ h a p ∧ h b q ∧ h c r := by
 obtain ⟨p, _, rfl, hp, q, _, rfl, hq, r, _, rfl, hr, rfl⟩ := H
 exact ⟨p, q, r, rfl, hp, hq, hr⟩
theorem hasList {α : Type} {enc : α → PVal} {wf : α → Prop} {P : Program} {n : Nat} {t e : TypeId} {ps : List PVal} (ht : P.underlying t = some (.slice e))
  (key : ∀ c, HasTy P n e c → ∃ x, wf x ∧ ofCells (isS P e) c = enc x) (h : HasTy P (n + 1) t ps) : ∃ l : List α, (∀ x ∈ l, wf x) ∧ ps = [.lst (l.map enc)] := by
 unfold HasTy at h
 simp only [ht] at h
 obtain ⟨l, rfl, hl⟩ := h
 induction l with
 | nil => exact ⟨[], fun x hx => (by cases hx), rfl⟩
 | cons c r ih =>
  obtain ⟨k, hk, e1⟩ := key c (hl c (by simp))
  obtain ⟨m, wm, e2⟩ := ih fun x hx => hl x (by simp [hx])
  refine ⟨k :: m, List.forall_mem_cons.2 ⟨hk, wm⟩, ?_⟩
  simp only [List.cons.injEq, PVal.lst.injEq, and_true] at e2
  rw [List.map_cons, List.map_cons, e1, e2]
section
variable {n : Nat} {c : List PVal}
theorem hasRow {t e : TypeId} (ht : Try.prog.underlying t = some (.slice e)) (he : Try.prog.underlying e = some (.int .u64)) (h : HasTy Try.prog (n + 2) t c) : ∃ l : List Nat, Wf l ∧ c = [.lst (l.map u64)] := by
 refine hasList (wf := fun k => k < B) ht (fun c h1 => ?_) h
 unfold HasTy at h1
 simp only [he] at h1
 obtain ⟨z, rfl, hz1, hz2⟩ := h1
 have hmin : IntKind.u64.min = 0 := rfl
 have hmax : IntKind.u64.max = 18446744073709551615 := rfl
 rw [hmin] at hz1
 rw [hmax] at hz2
 have hS : isS Try.prog e = false := by unfold isS; rw [he]
 refine ⟨z.toNat, by rw [B_lit]; omega, ?_⟩
 rw [hS]
 show PVal.int .u64 z = .int .u64 _
 rw [show ((z.toNat : Nat) : Int) = z by omega]
theorem hasBool (h : HasTy Try.prog (n + 1) 4 c) : ∃ b, c = [.bool b] := by
 unfold HasTy at h
 simp only [Try.underlying4] at h
 exact h
theorem hasInt (h : HasTy Try.prog (n + 1) 3 c) : ∃ z, (-9223372036854775808 ≤ z ∧ z < 9223372036854775808) ∧ c = [.int .i64 z] := by
 unfold HasTy at h
 simp only [Try.underlying3] at h
 obtain ⟨z, rfl, h1, h2⟩ := h
 have hmin : IntKind.i64.min = -9223372036854775808 := rfl
 have hmax : IntKind.i64.max = 9223372036854775807 := rfl
 rw [hmin] at h1
 rw [hmax] at h2
 exact ⟨z, by omega, rfl⟩
theorem hasRat (h : HasTy Try.prog (n + 3) 24 c) : ∃ x : Fr, x.wf ∧ c = [.bool x.s, .lst (x.n.map u64), .lst (x.d.map u64)] := by
 have hT : HasFs (HasTy Try.prog (n + 2)) [4, 22, 22] c := by
  unfold HasTy at h
  simp only [Try.underlying24] at h
  exact h
 obtain ⟨p, q, r, rfl, h1, h2, h3⟩ := hasFs3 hT
 obtain ⟨l, wl, rfl⟩ := hasRow Try.underlying22 Try.underlying56 h2
 obtain ⟨m, wm, rfl⟩ := hasRow Try.underlying22 Try.underlying56 h3
 obtain ⟨b, rfl⟩ := hasBool h1
 exact ⟨⟨b, l, m⟩, ⟨wl, wm⟩, rfl⟩
end
section
variable {H : Type} {enc : TypeId × Value → H} {W : World} {sp : Nat → Bool} {v : Value} {d : DataW H} {ps : List MemPlace} {r : Reach} {b0 : Nat}
set_option maxRecDepth 100000
theorem prep_rat (hv : Value.okWide Try.prog W r b0 24 v) (h : DataW.Trod enc Try.prog W 0 sp true 24 v d ps) :
  ∃ x : Fr, x.wf ∧ PRep (allCells W) x.enc v := by
 obtain ⟨c, hc, hp⟩ := prep_val (n := 4) (by kernel_rfl : plainTy Try.prog 4 24 = true) hv h
 have hS : isS Try.prog 24 = true := by unfold isS; rw [Try.underlying24]
 rw [hS] at hp
 obtain ⟨x, wx, rfl⟩ := hasRat hc
 exact ⟨x, wx, hp⟩
theorem prep_int64 (hv : Value.okWide Try.prog W r b0 3 v) (h : DataW.Trod enc Try.prog W 0 sp true 3 v d ps) :
  ∃ n : Int, (-9223372036854775808 ≤ n ∧ n < 9223372036854775808) ∧ PRep (allCells W) (.int .i64 n) v := by
 obtain ⟨c, hc, hp⟩ := prep_val (n := 1) (by kernel_rfl : plainTy Try.prog 1 3 = true) hv h
 have hS : isS Try.prog 3 = false := by unfold isS; rw [Try.underlying3]
 rw [hS] at hp
 obtain ⟨x, wx, rfl⟩ := hasInt (n := 0) hc
 exact ⟨x, wx, hp⟩
theorem prep_float {k : Nat} (hv : Value.okWide Try.prog W r b0 25 v) (h : DataW.Trod enc Try.prog W k sp true 25 v d ps) :
  ∃ b : Nat, b < 18446744073709551616 ∧ PRep (allCells W) (.flt .f64 b) v := by
 obtain ⟨b, rfl, _, _, hb⟩ := open_float Try.underlying25 hv h
 have hb : decide (b < 2 ^ 64) = true := hb
 exact ⟨b, by have := of_decide_eq_true hb; omega, .flt _ _⟩
end
end Go.Proofs.Ytbdccebpehogjaa
