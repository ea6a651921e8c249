/-
  What an open row asks of its arguments. No conditions beyond the lemmas' own hypotheses. What an open row asks of an atom. No conditions beyond the lemmas' own hypotheses. What an open row asks of sets of spans and lists. No conditions beyond the lemmas' own hypotheses.
-/
import Derived.Test.YtepfpgnjpkcgmaaGreatLinE
import Derived.Test.YtepfpgnjpkcgmaaGreatAbsThree
import Derived.Test.YtepfpgnjpkcgmaaGreatNatL
import Derived.Test.YtepfpgnjpkcgmaaGreatRows
import Derived.ProofKit
import Derived.OpenShut
import Derived.Test.YtepfpgnjpkcgmaaGreatAtomA
import Derived.Test.YtepfpgnjpkcgmaaGreatFeasB
set_option linter.unusedSimpArgs false
set_option linter.unnecessarySimpa false
set_option linter.unusedVariables false
set_option linter.constructorNameAsVariable false

/-
 What open rows ask of their arguments: fractions, sums, what is told of ids.
-/
namespace Go.Proofs.YtepfpgnjpkcgmaaGreat
open Go Go.Abs Go.ChangeShapes Go.WideShapes Go.ChangeAt Go.WideMaps Go.WideElems Go.RowKit Go.Limbs
set_option maxRecDepth 100000
def base0 : Prot := fun _ _ => none
theorem of_any {W : World} : Prot.le base0 (allCells W) := fun _ _ _ h => by cases h
theorem own : ownKnob Tryz.prog.godebug = none := by kernel_rfl
theorem laidOut : laidOutB Tryz.prog = true := by kernel_rfl
theorem hasFs3 {h : TypeId → List PVal → Prop} {a b c : TypeId} {ps : List PVal} (H : HasFs h [a, b, c] ps) : ∃ p q r, ps = p ++ (q ++ (r ++ [])) ∧ h a p ∧ h b q ∧ h c r := by
 obtain ⟨p, _, rfl, hp, q, _, rfl, hq, r, _, rfl, hr, rfl⟩ := H
 exact ⟨p, q, r, rfl, hp, hq, hr⟩
theorem hasList {α : Type} {enc : α → PVal} {wf : α → Prop} {P : Program} {n : Nat} {t e : TypeId} {ps : List PVal} (ht : P.underlying t = some (.slice e))
  (key : ∀ c, HasTy P n e c → ∃ x, wf x ∧ ofCells (isS P e) c = enc x) (h : HasTy P (n + 1) t ps) : ∃ l : List α, (∀ x ∈ l, wf x) ∧ ps = [.lst (l.map enc)] := by
 unfold HasTy at h
 simp only [ht] at h
 obtain ⟨l, rfl, hl⟩ := h
 induction l with
 | nil => exact ⟨[], fun x hx => (by cases hx), rfl⟩
 | cons c r ih =>
  obtain ⟨k, hk, e1⟩ := key c (hl c (by simp))
  obtain ⟨m, wm, e2⟩ := ih fun x hx => hl x (by simp [hx])
  refine ⟨k :: m, List.forall_mem_cons.2 ⟨hk, wm⟩, ?_⟩
  simp only [List.cons.injEq, PVal.lst.injEq, and_true] at e2
  rw [List.map_cons, List.map_cons, e1, e2]
section
variable {n : Nat} {c : List PVal}
theorem hasRow {t e : TypeId} (ht : Tryz.prog.underlying t = some (.slice e)) (he : Tryz.prog.underlying e = some (.int .u64)) (h : HasTy Tryz.prog (n + 2) t c) : ∃ l : List Nat, Wf l ∧ c = [.lst (l.map u64)] := by
 refine hasList (wf := fun k => k < B) ht (fun c h1 => ?_) h
 unfold HasTy at h1
 simp only [he] at h1
 obtain ⟨z, rfl, hz1, hz2⟩ := h1
 have hmin : IntKind.u64.min = 0 := rfl
 have hmax : IntKind.u64.max = 18446744073709551615 := rfl
 rw [hmin] at hz1
 rw [hmax] at hz2
 have hS : isS Tryz.prog e = false := by unfold isS; rw [he]
 refine ⟨z.toNat, by rw [B_lit]; omega, ?_⟩
 rw [hS]
 show PVal.int .u64 z = .int .u64 _
 rw [show ((z.toNat : Nat) : Int) = z by omega]
theorem hasBool (h : HasTy Tryz.prog (n + 1) 4 c) : ∃ b, c = [.bool b] := by
 unfold HasTy at h
 simp only [Tryz.underlying4] at h
 exact h
theorem hasRat (h : HasTy Tryz.prog (n + 3) 25 c) : ∃ x : Fr, x.wf ∧ c = [.bool x.s, .lst (x.n.map u64), .lst (x.d.map u64)] := by
 have hT : HasFs (HasTy Tryz.prog (n + 2)) [4, 23, 23] c := by
  unfold HasTy at h
  simp only [Tryz.underlying25] at h
  exact h
 obtain ⟨p, q, r, rfl, h1, h2, h3⟩ := hasFs3 hT
 obtain ⟨l, wl, rfl⟩ := hasRow Tryz.underlying23 Tryz.underlying157 h2
 obtain ⟨m, wm, rfl⟩ := hasRow Tryz.underlying23 Tryz.underlying157 h3
 obtain ⟨b, rfl⟩ := hasBool h1
 exact ⟨⟨b, l, m⟩, ⟨wl, wm⟩, rfl⟩
end
section
variable {H : Type} {enc : TypeId × Value → H} {W : World} {sp : Nat → Bool} {v : Value} {d : DataW H} {ps : List MemPlace} {r : Reach} {b0 : Nat}
set_option maxRecDepth 100000
end
end Go.Proofs.YtepfpgnjpkcgmaaGreat

/-
 What an open row asks of an atom.
-/
namespace Go.Proofs.YtepfpgnjpkcgmaaGreat
open Go Go.Abs Go.ChangeShapes Go.WideShapes Go.ChangeAt Go.WideMaps Go.WideElems Go.RowKit Go.Limbs
set_option maxRecDepth 100000
end Go.Proofs.YtepfpgnjpkcgmaaGreat

/-
 What an open row asks of sets of spans, lists of fractions and lists of ints.
-/
namespace Go.Proofs.YtepfpgnjpkcgmaaGreat
open Go Go.Abs Go.ChangeShapes Go.WideShapes Go.ChangeAt Go.WideMaps Go.WideElems Go.RowKit Go.Limbs
set_option maxRecDepth 100000
theorem hasFs6 {h : TypeId → List PVal → Prop} {a b c d e f : TypeId} {ps : List PVal} (H : HasFs h [a, b, c, d, e, f] ps) : ∃ p q r s t u, ps = p ++ (q ++ (r ++ (s ++ (t ++ (u ++ []))))) ∧ h a p ∧ h b q ∧ h c r ∧ h d s ∧ h e t ∧ h f u := by
 obtain ⟨p, _, rfl, hp, q, _, rfl, hq, r, _, rfl, hr, s, _, rfl, hs, t, _, rfl, ht, u, _, rfl, hu, rfl⟩ := H
 exact ⟨p, q, r, s, t, u, rfl, hp, hq, hr, hs, ht, hu⟩
theorem hasSpan {n : Nat} {c : List PVal} (h : HasTy Tryz.prog (n + 4) 101 c) : ∃ x : Sp, x.wf ∧ .agg c = x.enc := by
 have hT : HasFs (HasTy Tryz.prog (n + 3)) [25, 25, 4, 4, 4, 4] c := by
  unfold HasTy at h
  simp only [Tryz.underlying101] at h
  exact h
 obtain ⟨p, q, r, s, t, u, rfl, h1, h2, h3, h4, h5, h6⟩ := hasFs6 hT
 obtain ⟨x, wx, rfl⟩ := hasRat h1
 obtain ⟨y, wy, rfl⟩ := hasRat h2
 obtain ⟨b1, rfl⟩ := hasBool h3
 obtain ⟨b2, rfl⟩ := hasBool h4
 obtain ⟨b3, rfl⟩ := hasBool h5
 obtain ⟨b4, rfl⟩ := hasBool h6
 exact ⟨⟨x, y, b1, b2, b3, b4⟩, ⟨wx, wy⟩, rfl⟩
section
variable {H : Type} {enc : TypeId × Value → H} {W : World} {sp : Nat → Bool} {v : Value} {d : DataW H} {ps : List MemPlace} {r : Reach} {b0 : Nat}
theorem prep_spans (hv : Value.okWide Tryz.prog W r b0 80 v) (h : DataW.Trod enc Tryz.prog W 0 sp true 80 v d ps) :
  ∃ l : List Sp, wfSs l ∧ PRep (allCells W) (.lst (l.map Sp.enc)) v := by
 obtain ⟨c, hc, hp⟩ := prep_val (n := 6) (by kernel_rfl : plainTy Tryz.prog 6 80 = true) hv h
 have hS : isS Tryz.prog 80 = false := by unfold isS; rw [Tryz.underlying80]
 have hE : isS Tryz.prog 101 = true := by unfold isS; rw [Tryz.underlying101]
 rw [hS] at hp
 obtain ⟨l, wl, rfl⟩ := hasList (enc := Sp.enc) (wf := Sp.wf) Tryz.underlying80 (fun c h => by rw [hE]; exact hasSpan (n := 1) h) hc
 exact ⟨l, wl, hp⟩
theorem prep_rats (hv : Value.okWide Tryz.prog W r b0 99 v) (h : DataW.Trod enc Tryz.prog W 0 sp true 99 v d ps) :
  ∃ l : List Fr, (∀ x ∈ l, x.wf) ∧ PRep (allCells W) (.lst (l.map Fr.enc)) v := by
 obtain ⟨c, hc, hp⟩ := prep_val (n := 5) (by kernel_rfl : plainTy Tryz.prog 5 99 = true) hv h
 have hS : isS Tryz.prog 99 = false := by unfold isS; rw [Tryz.underlying99]
 have hE : isS Tryz.prog 25 = true := by unfold isS; rw [Tryz.underlying25]
 rw [hS] at hp
 obtain ⟨l, wl, rfl⟩ := hasList (enc := Fr.enc) (wf := Fr.wf) Tryz.underlying99 (fun c h => by
  rw [hE]
  obtain ⟨x, wx, rfl⟩ := hasRat (n := 1) h
  exact ⟨x, wx, rfl⟩) hc
 exact ⟨l, wl, hp⟩
end
end Go.Proofs.YtepfpgnjpkcgmaaGreat
