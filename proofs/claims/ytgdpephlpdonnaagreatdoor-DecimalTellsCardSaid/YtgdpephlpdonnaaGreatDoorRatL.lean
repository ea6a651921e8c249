/-
  What a row of fractions asks of its arguments. No conditions beyond the lemmas' own hypotheses.
-/
import Derived.Test.YtgdpephlpdonnaaGreatDoorWholeL
import Derived.Test.YtgdpephlpdonnaaGreatDoorAbsThree
import Derived.Test.YtgdpephlpdonnaaGreatDoorRatH
set_option linter.unusedSimpArgs false
set_option linter.unusedVariables false
set_option linter.constructorNameAsVariable false

/-
  What the rows of fractions ask of their arguments.
-/
namespace Go.Proofs.YtgdpephlpdonnaaGreatDoor
open Go Go.Abs Go.ChangeShapes Go.WideShapes Go.ChangeAt Go.WideMaps Go.WideElems Go.RowKit Go.Limbs
theorem hasFs3 {h : TypeId → List PVal → Prop} {a b c : TypeId} {ps : List PVal} (H : HasFs h [a, b, c] ps) : ∃ p q r, ps = p ++ (q ++ (r ++ [])) ∧ h a p ∧ h b q ∧ h c r := by
  obtain ⟨p, _, rfl, hp, q, _, rfl, hq, r, _, rfl, hr, rfl⟩ := H
  exact ⟨p, q, r, rfl, hp, hq, hr⟩
theorem hasRow {P : Program} {n : Nat} {t e : TypeId} {ps : List PVal} (ht : P.underlying t = some (.slice e)) (he : P.underlying e = some (.int .u64)) (h : HasTy P (n + 2) t ps) : ∃ l : List Nat, Wf l ∧ ps = [.lst (l.map u64)] := by
  unfold HasTy at h
  simp only [ht] at h
  obtain ⟨l, rfl, hl⟩ := h
  have hS : isS P e = false := by unfold isS; rw [he]
  rw [hS]
  have key : ∀ c ∈ l, ∃ k : Nat, k < B ∧ ofCells false c = u64 k := by
    intro c hc
    have h1 := hl c hc
    unfold HasTy at h1
    simp only [he] at h1
    obtain ⟨z, rfl, hz1, hz2⟩ := h1
    have hmin : IntKind.u64.min = 0 := rfl
    have hmax : IntKind.u64.max = 18446744073709551615 := rfl
    rw [hmin] at hz1
    rw [hmax] at hz2
    refine ⟨z.toNat, by rw [B_lit]; omega, ?_⟩
    show PVal.int .u64 z = .int .u64 _
    rw [show ((z.toNat : Nat) : Int) = z by omega]
  clear hl
  induction l with
  | nil => exact ⟨[], Wf.nil, rfl⟩
  | cons c r ih =>
    obtain ⟨k, hk, e1⟩ := key c (by simp)
    obtain ⟨m, wm, e2⟩ := ih fun x hx => key x (by simp [hx])
    refine ⟨k :: m, Wf.cons hk wm, ?_⟩
    simp only [List.cons.injEq, PVal.lst.injEq, and_true] at e2
    rw [List.map_cons, List.map_cons, e1, e2]
set_option maxRecDepth 100000 in
theorem prep_rat {H : Type} {enc : TypeId × Value → H} {W : World} {sp : Nat → Bool} {v : Value} {d : DataW H} {ps : List MemPlace} {r : Reach} {b0 : Nat} (hv : Value.okWide Tryz.prog W r b0 24 v) (h : DataW.Trod enc Tryz.prog W 0 sp true 24 v d ps) :
    ∃ x : Fr, x.wf ∧ PRep (allCells W) x.enc v := by
  obtain ⟨c, hc, hp⟩ := prep_val (n := 4) (by kernel_rfl : plainTy Tryz.prog 4 24 = true) hv h
  have hS : isS Tryz.prog 24 = true := by unfold isS; rw [Tryz.underlying24]
  rw [hS] at hp
  have hT : HasFs (HasTy Tryz.prog 3) [4, 22, 22] c := by
    unfold HasTy at hc
    simp only [Tryz.underlying24] at hc
    exact hc
  obtain ⟨p, q, r, rfl, h1, h2, h3⟩ := hasFs3 hT
  obtain ⟨l, wl, rfl⟩ := hasRow (n := 1) Tryz.underlying22 Tryz.underlying40 h2
  obtain ⟨m, wm, rfl⟩ := hasRow (n := 1) Tryz.underlying22 Tryz.underlying40 h3
  unfold HasTy at h1
  simp only [Tryz.underlying4] at h1
  obtain ⟨b, rfl⟩ := h1
  exact ⟨⟨b, l, m⟩, ⟨wl, wm⟩, hp⟩
end Go.Proofs.YtgdpephlpdonnaaGreatDoor
