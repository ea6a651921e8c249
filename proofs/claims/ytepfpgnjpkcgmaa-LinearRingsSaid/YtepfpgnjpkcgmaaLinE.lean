/-
  What the reference's functions of sums compute, for at most a million parts.
-/
import Derived.Test.YtepfpgnjpkcgmaaLinD
import Derived.Test.YtepfpgnjpkcgmaaRatM
set_option linter.unusedSimpArgs false
set_option linter.unnecessarySimpa false
set_option linter.unusedVariables false
set_option linter.constructorNameAsVariable false

/-
  The reference's sums: what is one, a term's number, without a term, the same.
-/
namespace Go.Proofs.Ytepfpgnjpkcgmaa
open Go Go.Abs Go.Limbs
variable {base : Prot}
set_option maxRecDepth 20000
attribute [local irreducible] vc
attribute [local simp] pureS touchV freezeL fuel shiftV u64 au
def Trz : Tab := ((Tab.none.with 11 (pureS sQOf)).with 7 (pureS (f1 boolF))).with 22 (pureS (f2 sameP))
theorem Trz_ok : TabOk Try.prog base Trz := Tab.with_ok (Tab.with_ok (Tab.with_ok Tab.none_ok rofR_ok) rvalidR_ok) rsame_ok
theorem Trz_mu (f : FuncId) (a : List AVal) (H : Heap) : Trz.mu f a H = none := (rfl)
theorem Trz_fns : Trz.fn 11 = (pureS sQOf) ∧ Trz.fn 7 = (pureS (f1 boolF)) ∧ Trz.fn 22 = (pureS (f2 sameP)) := ⟨rfl, rfl, rfl⟩
theorem rpvalid_ok : FnOk Try.prog base 6 (pureS (g1 okPo)) := by
  refine pure_of_vc hmix Trz_ok globNone low6 fun args z hs hf => ?_
  obtain ⟨p, wp, rfl, rfl⟩ := g1_some hs
  refine ⟨by simp [lf6], ?_⟩
  unfold okPo
  have hlen := len_ps (hf _ (List.mem_singleton.2 rfl))
  have hc : f1 boolF [p.c.enc] = some (.bool p.c.ok) := vF wp.2
  simp only [Po.enc, Fr.enc] at hc ⊢
  simp [lf6, fillS]
  simp only [lf6_B0, vc_block]
  refine loop_ind (fun fr H => ∃ (i : Nat) (ex : Heap), H = ⟨4, 0, false, [.p p.enc], 27⟩ :: ex ∧ i ≤ p.ps.length ∧ okParts (-1) p.ps = okParts (lastT p.ps i) (p.ps.drop i) ∧ fr 1 = .optr 0 0 0 0 ∧ fr 3 = .p (.int .i64 (lastT p.ps i)) ∧ fr 4 = .p (.int .i64 i)) (fun fr _ => p.ps.length - ivar (fr 4))
    ⟨0, [], by simp [Po.enc, Fr.enc], by omega, rfl, by simp, by simp [lastT], by simp⟩ ?_
  rintro fr H ⟨i, ex, rfl, hi, hok, f1', f3, f4⟩
  by_cases h1 : i < p.ps.length
  · obtain ⟨x, hx⟩ : ∃ x, p.ps[i]? = some x := ⟨_, List.getElem?_eq_getElem h1⟩
    have wx : x.c.wf := wp.1 x (List.mem_of_getElem? hx)
    have hv : f1 boolF [x.c.enc] = some (.bool x.c.ok) := vF wx
    simp only [Fr.enc] at hv
    have hxe := getE hx
    have hw := wrap_succ (i := i) (by omega)
    rw [okParts_at hx] at hok
    have hlx : lastT p.ps (i + 1) = x.t := by simp only [lastT, hx]
    have bad : (decide (lastT p.ps i < x.t) && x.c.ok && !decide (x.c.n = [])) = false → p.ok = false := fun h => by
      unfold Po.ok
      rw [hok, h]
      rfl
    by_cases ha : x.t ≤ lastT p.ps i
    · rw [bad (by rw [decide_eq_false (show ¬ lastT p.ps i < x.t by omega)]; rfl)]
      simp [f1', f3, f4, h1, hxe, Pa.enc, Po.enc, Fr.enc, ha, binS, getA, getA0, setA, setA0, Trz_mu, Trz_fns]
    · cases hvk : x.c.ok with
      | false =>
        rw [hvk] at hv
        rw [bad (by rw [hvk]; simp)]
        simp [f1', f3, f4, h1, hxe, Pa.enc, Po.enc, Fr.enc, ha, hv, binS, getA, getA0, setA, setA0, Trz_mu, Trz_fns]
      | true =>
        rw [hvk] at hv
        by_cases hn : x.c.n = []
        · rw [bad (by rw [decide_eq_true hn]; simp)]
          rw [hn] at hv
          simp only [List.map_nil] at hv
          simp [f1', f3, f4, h1, hxe, Pa.enc, Po.enc, Fr.enc, ha, hv, hn, binS, getA, getA0, setA, setA0, Trz_mu, Trz_fns]
        · have hn0 : ((x.c.n.length : Int) == 0) = false := by
            have := List.length_pos_iff.2 hn
            simp; exact hn
          have hg : okParts (-1) p.ps = okParts (lastT p.ps (i + 1)) (p.ps.drop (i + 1)) := by rw [hok, decide_eq_true (show lastT p.ps i < x.t by omega), hvk, decide_eq_false hn]; rfl
          simp [f1', f3, f4, h1, hxe, Pa.enc, Po.enc, Fr.enc, ha, hv, hn, hn0, hw, binS, ivar, getA, getA0, setA, setA0, Trz_mu, Trz_fns]
          exact ⟨⟨i + 1, by omega, hg, hlx.symm, by omega⟩, by omega⟩
  · have hil : i = p.ps.length := by omega
    rw [hil, List.drop_length] at hok
    have : p.ok = p.c.ok := by unfold Po.ok; rw [hok]; rfl
    rw [this]
    simp [f1', f4, h1, Po.enc, Fr.enc, hc, Trz_mu, Trz_fns]
/-! ### A term's number, and what is left without it -/
/-! ### The same -/
end Go.Proofs.Ytepfpgnjpkcgmaa

/-
  The reference's sums: without a term, multiples.
-/
namespace Go.Proofs.Ytepfpgnjpkcgmaa
open Go Go.Abs Go.Limbs
variable {base : Prot}
set_option maxRecDepth 20000
attribute [local irreducible] vc
attribute [local simp] pureS touchV freezeL fuel shiftV u64 au
/-! ### Without -/
/-! ### Multiples -/
end Go.Proofs.Ytepfpgnjpkcgmaa

/-
  The reference's sums: sums; what a term is where a sum is 0.
-/
namespace Go.Proofs.Ytepfpgnjpkcgmaa
open Go Go.Abs Go.Limbs
variable {base : Prot}
set_option maxRecDepth 20000
attribute [local irreducible] vc
attribute [local simp] pureS touchV freezeL fuel shiftV u64 au
end Go.Proofs.Ytepfpgnjpkcgmaa

/-
  The reference's sums: sums of any; what a term is where a sum is 0; what is told of ids, and values.
-/
namespace Go.Proofs.Ytepfpgnjpkcgmaa
open Go Go.Abs Go.Limbs
variable {base : Prot}
set_option maxRecDepth 20000
attribute [local irreducible] vc
attribute [local simp] pureS touchV freezeL fuel shiftV u64 au
/-! ### What is told of ids -/
structure Bd where
  id : Int
  x : Fr
def Bd.enc (b : Bd) : PVal := .agg [.int .i64 b.id, .bool b.x.s, .lst (b.x.n.map u64), .lst (b.x.d.map u64)]
end Go.Proofs.Ytepfpgnjpkcgmaa

/-
  law8: the reference's values; what is told of ids.
-/
namespace Go.Proofs.Ytepfpgnjpkcgmaa
open Go Go.Abs Go.Limbs
variable {base : Prot}
set_option maxRecDepth 20000
attribute [local irreducible] vc
attribute [local simp] pureS touchV freezeL fuel shiftV u64 au
end Go.Proofs.Ytepfpgnjpkcgmaa
