/-
  AtomForms answers true on all values. No conditions.
-/
import Derived.Test.YtepfpgnjpkcgmaaGreatAtomE
set_option linter.unusedSimpArgs false
set_option linter.unnecessarySimpa false
set_option linter.unusedVariables false
set_option linter.constructorNameAsVariable false

/-
  law9: AtomForms answers true.
-/
namespace Go.Proofs.YtepfpgnjpkcgmaaGreat
open Go Go.Abs Go.Limbs
variable {base : Prot}
set_option maxRecDepth 20000
attribute [local irreducible] vc
attribute [local simp] pureS touchV freezeL fuel shiftV u64 au
/-! ### Round -/
theorem tmod4 (i : Int) : -4 < Int.tmod i 4 ∧ Int.tmod i 4 < 4 := by
  rw [Int.tmod_eq_emod]
  split <;> omega
def roundZ (i n : Int) : Int := Int.tmod (Int.tmod i n + n) n
theorem round4 (i : Int) : roundZ i 4 = 0 ∨ roundZ i 4 = 1 ∨ roundZ i 4 = 2 ∨ roundZ i 4 = 3 := by
  unfold roundZ
  have h1 := tmod4 i
  have h2 : 0 ≤ Int.tmod (Int.tmod i 4 + 4) 4 := Int.tmod_nonneg _ (by omega)
  have h3 : Int.tmod (Int.tmod i 4 + 4) 4 < 4 := Int.tmod_lt_of_pos _ (by decide)
  omega
def sRound4 : List PVal → Option PVal
  | [.int .i64 i, .int .i64 n] => if n = 4 then some (.int .i64 (roundZ i 4)) else none
  | _ => none
theorem round_ok : FnOk Tryz.prog base 52 (pureS sRound4) := by
  refine pure_of_vc hmix Tab.none_ok globNone low52 fun args z hs hf => ?_
  unfold sRound4 at hs
  split at hs
  case h_2 => cases hs
  rename_i i n
  split at hs
  case isFalse => cases hs
  rename_i h
  subst h
  cases hs
  refine ⟨by simp [lf52], ?_⟩
  have h1 := tmod4 i
  have hw : IntKind.i64.wrap (Int.tmod i 4 + 4) = Int.tmod i 4 + 4 := IntWalk.i64_in _ (by omega)
  simp [lf52, roundZ, hw]
/-! ### The same atom of a sum and of its multiple -/
theorem few_is {P : Qo} (h : P.Is 64) (f : fewPo (ofP P) = true) : P.Is 8 ∧ P.ps.length ≤ 10 := by
  unfold fewPo at f
  rw [Bool.and_eq_true, Bool.and_eq_true, decide_eq_true_eq] at f
  obtain ⟨⟨f1, f2⟩, f3⟩ := f
  have hl : P.ps.length ≤ 10 := by simpa [ofP] using f2
  have key : ∀ q : Rat, fewF1 (ofQ q) = true → Sm 8 q := fun q h => by
    unfold fewF1 at h
    rw [Bool.and_eq_true, decide_eq_true_eq, decide_eq_true_eq] at h
    exact Sm_of_few h.1 h.2
  refine ⟨⟨h.ok, fun x hx => key x.1 (List.all_eq_true.1 f1 (ofA x) ?_), key _ f3⟩, hl⟩
  rw [List.take_of_length_le (by simp [ofP]; omega)]
  exact List.mem_map_of_mem hx
theorem few_ofP {P : Qo} (h : P.ps.length ≤ 10) : (ofP P).few = true := decide_eq_true (by unfold ofP; simp; omega)
theorem len_norm (k : Int) (P : Qo) : (normQ k P).ps.length ≤ P.ps.length := by
  unfold normQ
  split
  · exact Nat.zero_le _
  · exact len_scale _ _
/-- What the law's calls answer, of a sum and its multiple. -/
structure FormF (K kd : Int) (p q A : Po) (n : Bool) : Prop where
  m1 : ki makeP [.int .i64 kd, p.enc] = some (.tup [(At.mk K A 0 0).enc, .bool n, .int .i64 0])
  m2 : ki makeP [.int .i64 kd, q.enc] = some (.tup [(At.mk K A 0 0).enc, .bool n, .int .i64 0])
  sm : h2 sameAt [(At.mk K A 0 0).enc, (At.mk K A 0 0).enc] = some (.bool true)
  v : h1 okAt [(At.mk K A 0 0).enc] = some (.bool true)
structure NotF (K J : Int) (A M : Po) : Prop where
  n1 : h1s notP [(At.mk K A 0 0).enc] = some (.tup [(At.mk J M 0 0).enc, .bool true])
  n2 : h1s notP [(At.mk J M 0 0).enc] = some (.tup [(At.mk K A 0 0).enc, .bool true])
  v2 : h1 okAt [(At.mk J M 0 0).enc] = some (.bool true)
  d : h2 sameAt [(At.mk J M 0 0).enc, (At.mk K A 0 0).enc] = some (.bool false)
theorem not_f {k : Int} {N : Qo} {m : Nat} (hk : k = 1 ∨ k = 2) (h : Can k N) (hN : N.Is m) (hm : 2 * m + 5 ≤ 64) (hl : N.ps.length ≤ 10) : NotF k (3 - k) (ofP N) (ofP (scaleQ N (-1))) := by
  have hs : isSum (3 - k) = true ∧ 3 - k ≠ 3 := by rcases hk with rfl | rfl <;> decide
  have hk2 : 3 - k = 1 ∨ 3 - k = 2 := by rcases hk with rfl | rfl <;> decide
  have hkk : 3 - (3 - k) = k := by omega
  have hM : (scaleQ N (-1)).Is (m + 1) := scaleQ_is hN smm1
  have cM : Can (3 - k) (scaleQ N (-1)) := can_neg hs.2 h
  refine ⟨?_, ?_, ?_, ?_⟩
  · rw [h1s_at (wf_ofP _) (few_ofP hl)]; unfold notP
    rw [show notAt ⟨k, ofP N, 0, 0⟩ = (atQ (3 - k) (scaleQ N (-1)), true) from not_of hk h hN (by omega)]; rfl
  · rw [h1s_at (wf_ofP _) (few_ofP (Nat.le_trans (len_scale _ _) hl))]; unfold notP
    rw [show notAt ⟨3 - k, ofP (scaleQ N (-1)), 0, 0⟩ = (atQ (3 - (3 - k)) (scaleQ (scaleQ N (-1)) (-1)), true) from not_of hk2 cM hM (by omega), hkk, scaleQ_neg]; rfl
  · rw [h1_at (wf_ofP _)]; unfold okAt
    rw [show (At.mk (3 - k) (ofP (scaleQ N (-1))) 0 0).ok = true from can_ok hs.1 cM (hM.mono (by omega))]
  · rw [h2_at (wf_ofP _) (wf_ofP _)]; unfold sameAt
    rw [decide_eq_false (fun e => by have := congrArg At.k e; simp only at this; rcases hk with rfl | rfl <;> exact absurd this (by decide))]
theorem f1_sign {x : Fr} (h : x.wf) : f1 signP [x.enc] = some (.int .i64 (signF x)) := f1_at h
end Go.Proofs.YtepfpgnjpkcgmaaGreat
