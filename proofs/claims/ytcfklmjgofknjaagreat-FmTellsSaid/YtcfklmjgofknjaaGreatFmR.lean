/-
  What an open row asks of its arguments. No conditions beyond the lemmas' own hypotheses.
-/
import Derived.Test.YtcfklmjgofknjaaGreatLinE
import Derived.Test.YtcfklmjgofknjaaGreatAbsThree
import Derived.Test.YtcfklmjgofknjaaGreatNatL
import Derived.Test.YtcfklmjgofknjaaGreatRows
import Derived.ProofKit
import Derived.OpenShut
import Derived.Test.YtcfklmjgofknjaaGreatAtomA
import Derived.Test.YtcfklmjgofknjaaGreatFmC
set_option linter.unusedSimpArgs false
set_option linter.unnecessarySimpa false
set_option linter.unusedVariables false
set_option linter.constructorNameAsVariable false

/-
 What open rows ask of their arguments: fractions, sums, what is told of ids.
-/
namespace Go.Proofs.YtcfklmjgofknjaaGreat
open Go Go.Abs Go.ChangeShapes Go.WideShapes Go.ChangeAt Go.WideMaps Go.WideElems Go.RowKit Go.Limbs
set_option maxRecDepth 100000
def base0 : Prot := fun _ _ => none
theorem of_any {W : World} : Prot.le base0 (allCells W) := fun _ _ _ h => by cases h
theorem own : ownKnob Tryz.prog.godebug = none := by kernel_rfl
theorem laidOut : laidOutB Tryz.prog = true := by kernel_rfl
theorem hasFs3 {h : TypeId → List PVal → Prop} {a b c : TypeId} {ps : List PVal} (H : HasFs h [a, b, c] ps) : ∃ p q r, ps = p ++ (q ++ (r ++ [])) ∧ h a p ∧ h b q ∧ h c r := by
 obtain ⟨p, _, rfl, hp, q, _, rfl, hq, r, _, rfl, hr, rfl⟩ := H
 exact ⟨p, q, r, rfl, hp, hq, hr⟩
theorem hasFs2 {h : TypeId → List PVal → Prop} {a b : TypeId} {ps : List PVal} (H : HasFs h [a, b] ps) : ∃ p q, ps = p ++ (q ++ []) ∧ h a p ∧ h b q := by
 obtain ⟨p, _, rfl, hp, q, _, rfl, hq, rfl⟩ := H
 exact ⟨p, q, rfl, hp, hq⟩
theorem hasList {α : Type} {enc : α → PVal} {wf : α → Prop} {P : Program} {n : Nat} {t e : TypeId} {ps : List PVal} (ht : P.underlying t = some (.slice e))
  (key : ∀ c, HasTy P n e c → ∃ x, wf x ∧ ofCells (isS P e) c = enc x) (h : HasTy P (n + 1) t ps) : ∃ l : List α, (∀ x ∈ l, wf x) ∧ ps = [.lst (l.map enc)] := by
 unfold HasTy at h
 simp only [ht] at h
 obtain ⟨l, rfl, hl⟩ := h
 induction l with
 | nil => exact ⟨[], fun x hx => (by cases hx), rfl⟩
 | cons c r ih =>
  obtain ⟨k, hk, e1⟩ := key c (hl c (by simp))
  obtain ⟨m, wm, e2⟩ := ih fun x hx => hl x (by simp [hx])
  refine ⟨k :: m, List.forall_mem_cons.2 ⟨hk, wm⟩, ?_⟩
  simp only [List.cons.injEq, PVal.lst.injEq, and_true] at e2
  rw [List.map_cons, List.map_cons, e1, e2]
section
variable {n : Nat} {c : List PVal}
theorem hasRow {t e : TypeId} (ht : Tryz.prog.underlying t = some (.slice e)) (he : Tryz.prog.underlying e = some (.int .u64)) (h : HasTy Tryz.prog (n + 2) t c) : ∃ l : List Nat, Wf l ∧ c = [.lst (l.map u64)] := by
 refine hasList (wf := fun k => k < B) ht (fun c h1 => ?_) h
 unfold HasTy at h1
 simp only [he] at h1
 obtain ⟨z, rfl, hz1, hz2⟩ := h1
 have hmin : IntKind.u64.min = 0 := rfl
 have hmax : IntKind.u64.max = 18446744073709551615 := rfl
 rw [hmin] at hz1
 rw [hmax] at hz2
 have hS : isS Tryz.prog e = false := by unfold isS; rw [he]
 refine ⟨z.toNat, by rw [B_lit]; omega, ?_⟩
 rw [hS]
 show PVal.int .u64 z = .int .u64 _
 rw [show ((z.toNat : Nat) : Int) = z by omega]
theorem hasBool (h : HasTy Tryz.prog (n + 1) 4 c) : ∃ b, c = [.bool b] := by
 unfold HasTy at h
 simp only [Tryz.underlying4] at h
 exact h
theorem hasInt (h : HasTy Tryz.prog (n + 1) 3 c) : ∃ z, (-9223372036854775808 ≤ z ∧ z < 9223372036854775808) ∧ c = [.int .i64 z] := by
 unfold HasTy at h
 simp only [Tryz.underlying3] at h
 obtain ⟨z, rfl, h1, h2⟩ := h
 have hmin : IntKind.i64.min = -9223372036854775808 := rfl
 have hmax : IntKind.i64.max = 9223372036854775807 := rfl
 rw [hmin] at h1
 rw [hmax] at h2
 exact ⟨z, by omega, rfl⟩
theorem hasRat (h : HasTy Tryz.prog (n + 3) 25 c) : ∃ x : Fr, x.wf ∧ c = [.bool x.s, .lst (x.n.map u64), .lst (x.d.map u64)] := by
 have hT : HasFs (HasTy Tryz.prog (n + 2)) [4, 23, 23] c := by
  unfold HasTy at h
  simp only [Tryz.underlying25] at h
  exact h
 obtain ⟨p, q, r, rfl, h1, h2, h3⟩ := hasFs3 hT
 obtain ⟨l, wl, rfl⟩ := hasRow Tryz.underlying23 Tryz.underlying135 h2
 obtain ⟨m, wm, rfl⟩ := hasRow Tryz.underlying23 Tryz.underlying135 h3
 obtain ⟨b, rfl⟩ := hasBool h1
 exact ⟨⟨b, l, m⟩, ⟨wl, wm⟩, rfl⟩
theorem hasPart (h : HasTy Tryz.prog (n + 4) 70 c) : ∃ x : Pa, x.wf ∧ .agg c = x.enc := by
 have hT : HasFs (HasTy Tryz.prog (n + 3)) [25, 3] c := by
  unfold HasTy at h
  simp only [Tryz.underlying70] at h
  exact h
 obtain ⟨p, q, rfl, h1, h2⟩ := hasFs2 hT
 obtain ⟨x, wx, rfl⟩ := hasRat h1
 obtain ⟨z, _, rfl⟩ := hasInt h2
 exact ⟨⟨x, z⟩, wx, rfl⟩
theorem hasPoly (h : HasTy Tryz.prog (n + 6) 27 c) : ∃ p : Po, p.wf ∧ c = [.lst (p.ps.map Pa.enc), .bool p.c.s, .lst (p.c.n.map u64), .lst (p.c.d.map u64)] := by
 have hT : HasFs (HasTy Tryz.prog (n + 5)) [22, 25] c := by
  unfold HasTy at h
  simp only [Tryz.underlying27] at h
  exact h
 obtain ⟨p, q, rfl, h1, h2⟩ := hasFs2 hT
 have hS : isS Tryz.prog 70 = true := by unfold isS; rw [Tryz.underlying70]
 obtain ⟨l, wl, rfl⟩ := hasList (enc := Pa.enc) (wf := Pa.wf) Tryz.underlying22 (fun c h => by rw [hS]; exact hasPart h) h1
 obtain ⟨x, wx, rfl⟩ := hasRat (n := n + 2) h2
 exact ⟨⟨l, x⟩, ⟨wl, wx⟩, rfl⟩
end
section
variable {H : Type} {enc : TypeId × Value → H} {W : World} {sp : Nat → Bool} {v : Value} {d : DataW H} {ps : List MemPlace} {r : Reach} {b0 : Nat}
set_option maxRecDepth 100000
theorem prep_int64 (hv : Value.okWide Tryz.prog W r b0 3 v) (h : DataW.Trod enc Tryz.prog W 0 sp true 3 v d ps) :
  ∃ n : Int, (-9223372036854775808 ≤ n ∧ n < 9223372036854775808) ∧ PRep (allCells W) (.int .i64 n) v := by
 obtain ⟨c, hc, hp⟩ := prep_val (n := 1) (by kernel_rfl : plainTy Tryz.prog 1 3 = true) hv h
 have hS : isS Tryz.prog 3 = false := by unfold isS; rw [Tryz.underlying3]
 rw [hS] at hp
 obtain ⟨x, wx, rfl⟩ := hasInt (n := 0) hc
 exact ⟨x, wx, hp⟩
theorem prep_bds {t e : TypeId} (ht : Tryz.prog.underlying t = some (.slice e)) {fs : Array Field} (he : Tryz.prog.underlying e = some (.struct fs)) (hfs : fs.toList.map (·.type) = [3, 25])
  (hpl : plainTy Tryz.prog 5 t = true) (hv : Value.okWide Tryz.prog W r b0 t v) (h : DataW.Trod enc Tryz.prog W 0 sp true t v d ps) :
  ∃ l : List Bd, wfB l ∧ PRep (allCells W) (.lst (l.map Bd.enc)) v := by
 obtain ⟨c, hc, hp⟩ := prep_val (n := 5) hpl hv h
 have hS : isS Tryz.prog t = false := by unfold isS; rw [ht]
 have hE : isS Tryz.prog e = true := by unfold isS; rw [he]
 rw [hS] at hp
 obtain ⟨l, wl, rfl⟩ := hasList (enc := Bd.enc) (wf := fun b => b.x.wf) ht (fun c h => by
  rw [hE]
  have hT : HasFs (HasTy Tryz.prog 3) [3, 25] c := by
   unfold HasTy at h
   simp only [he, hfs] at h
   exact h
  obtain ⟨p, q, rfl, h1, h2⟩ := hasFs2 hT
  obtain ⟨z, _, rfl⟩ := hasInt h1
  obtain ⟨x, wx, rfl⟩ := hasRat (n := 0) h2
  exact ⟨⟨z, x⟩, wx, rfl⟩) hc
 exact ⟨l, wl, hp⟩
end
end Go.Proofs.YtcfklmjgofknjaaGreat

/-
 What an open row asks of an atom.
-/
namespace Go.Proofs.YtcfklmjgofknjaaGreat
open Go Go.Abs Go.ChangeShapes Go.WideShapes Go.ChangeAt Go.WideMaps Go.WideElems Go.RowKit Go.Limbs
set_option maxRecDepth 100000
theorem hasFs4 {h : TypeId → List PVal → Prop} {a b c d : TypeId} {ps : List PVal} (H : HasFs h [a, b, c, d] ps) : ∃ p q r s, ps = p ++ (q ++ (r ++ (s ++ []))) ∧ h a p ∧ h b q ∧ h c r ∧ h d s := by
 obtain ⟨p, _, rfl, hp, q, _, rfl, hq, r, _, rfl, hr, s, _, rfl, hs, rfl⟩ := H
 exact ⟨p, q, r, s, rfl, hp, hq, hr, hs⟩
end Go.Proofs.YtcfklmjgofknjaaGreat

/-
 What an open row asks of literals.
-/
namespace Go.Proofs.YtcfklmjgofknjaaGreat
open Go Go.Abs Go.ChangeShapes Go.WideShapes Go.ChangeAt Go.WideMaps Go.WideElems Go.RowKit Go.Limbs
set_option maxRecDepth 100000
theorem hasFsTwo {h : TypeId → List PVal → Prop} {a b : TypeId} {ps : List PVal} (H : HasFs h [a, b] ps) : ∃ p q, ps = p ++ (q ++ []) ∧ h a p ∧ h b q := by
 obtain ⟨p, _, rfl, hp, q, _, rfl, hq, rfl⟩ := H
 exact ⟨p, q, rfl, hp, hq⟩
theorem hasAtom {c : List PVal} (h : HasTy Tryz.prog 7 29 c) : ∃ x : At, x.p.wf ∧ .agg c = x.enc := by
 have hT : HasFs (HasTy Tryz.prog 6) [3, 27, 3, 3] c := by
  unfold HasTy at h
  simp only [Tryz.underlying29] at h
  exact h
 obtain ⟨p, q, r, s, rfl, h1, h2, h3, h4⟩ := hasFs4 hT
 obtain ⟨k, _, rfl⟩ := hasInt (n := 5) h1
 obtain ⟨x, wx, rfl⟩ := hasPoly (n := 0) h2
 obtain ⟨a, _, rfl⟩ := hasInt (n := 5) h3
 obtain ⟨b, _, rfl⟩ := hasInt (n := 5) h4
 exact ⟨⟨k, x, a, b⟩, wx, rfl⟩
theorem hasLit {c : List PVal} (h : HasTy Tryz.prog 8 31 c) : ∃ x : Lt, x.wf ∧ .agg c = x.enc := by
 have hT : HasFs (HasTy Tryz.prog 7) [29, 4] c := by
  unfold HasTy at h
  simp only [Tryz.underlying31] at h
  exact h
 obtain ⟨p, q, rfl, h1, h2⟩ := hasFsTwo hT
 obtain ⟨x, wx, hx⟩ := hasAtom h1
 obtain ⟨b, rfl⟩ := hasBool h2
 have hx : p = [.int .i64 x.k, .lst (x.p.ps.map Pa.enc), .bool x.p.c.s, .lst (x.p.c.n.map u64), .lst (x.p.c.d.map u64), .int .i64 x.a, .int .i64 x.b] := by
  simpa [At.enc] using hx
 subst hx
 exact ⟨⟨x, b⟩, wx, rfl⟩
section
variable {H : Type} {enc : TypeId × Value → H} {W : World} {sp : Nat → Bool} {v : Value} {d : DataW H} {ps : List MemPlace} {r : Reach} {b0 : Nat}
theorem prep_lit (hv : Value.okWide Tryz.prog W r b0 31 v) (h : DataW.Trod enc Tryz.prog W 0 sp true 31 v d ps) :
  ∃ x : Lt, x.wf ∧ PRep (allCells W) x.enc v := by
 obtain ⟨c, hc, hp⟩ := prep_val (n := 8) (by kernel_rfl : plainTy Tryz.prog 8 31 = true) hv h
 have hS : isS Tryz.prog 31 = true := by unfold isS; rw [Tryz.underlying31]
 rw [hS] at hp
 obtain ⟨x, wx, hx⟩ := hasLit hc
 refine ⟨x, wx, ?_⟩
 rw [← hx]
 exact hp
theorem prep_lits (hv : Value.okWide Tryz.prog W r b0 32 v) (h : DataW.Trod enc Tryz.prog W 0 sp true 32 v d ps) :
  ∃ l : List Lt, (∀ x ∈ l, x.wf) ∧ PRep (allCells W) (.lst (l.map Lt.enc)) v := by
 obtain ⟨c, hc, hp⟩ := prep_val (n := 9) (by kernel_rfl : plainTy Tryz.prog 9 32 = true) hv h
 have hS : isS Tryz.prog 32 = false := by unfold isS; rw [Tryz.underlying32]
 have hE : isS Tryz.prog 31 = true := by unfold isS; rw [Tryz.underlying31]
 rw [hS] at hp
 obtain ⟨l, wl, rfl⟩ := hasList (enc := Lt.enc) (wf := Lt.wf) Tryz.underlying32 (fun c h => by rw [hE]; exact hasLit h) hc
 exact ⟨l, wl, hp⟩
end
end Go.Proofs.YtcfklmjgofknjaaGreat
