/-
  RatField answers true on all values. No conditions.
-/
import Derived.Test.YtoechbpjfkabmaaGreatDoorRatG
set_option linter.unusedSimpArgs false
set_option linter.unusedVariables false
set_option linter.constructorNameAsVariable false

/-
  law3: same and few; RatField, RatFloors, RatInts answer true.
-/
namespace Go.Proofs.YtoechbpjfkabmaaGreatDoor
open Go Go.Abs Go.Limbs
variable {base : Prot}
set_option maxRecDepth 20000
attribute [local irreducible] vc
attribute [local simp] pureS touchV freezeL fuel shiftV u64 au
def sLw3 : List PVal → Option PVal
  | [a, b, c] => match decF a, decF b, decF c with | some _, some _, some _ => some (.bool true) | _, _, _ => none
  | _ => none
theorem sLw3_some {args : List PVal} {z : PVal} (h : sLw3 args = some z) : ∃ x y w : Fr, x.wf ∧ y.wf ∧ w.wf ∧ args = [x.enc, y.enc, w.enc] ∧ z = .bool true := by
  unfold sLw3 at h
  split at h
  · split at h
    · rename_i x y w hx hy hw
      cases h
      obtain ⟨rfl, wx⟩ := decF_some hx
      obtain ⟨rfl, wy⟩ := decF_some hy
      obtain ⟨rfl, ww⟩ := decF_some hw
      exact ⟨x, y, w, wx, wy, ww, rfl, rfl⟩
    · cases h
  · cases h
theorem few_Sm {p q : Rat} (h : fewF (ofQ p) (ofQ q) = true) : Sm 10 p ∧ Sm 10 q := by
  unfold fewF ofQ at h
  simp only [Bool.and_eq_true, decide_eq_true_eq] at h
  exact ⟨⟨h.1.1, h.1.2⟩, h.2.1, h.2.2⟩
theorem field_ok : FnOk Tryz.prog base2 13 (pureS sLw3) := by
  refine pure_of_vc hmix Tl3_ok globNone low13 fun args z hs hf => ?_
  obtain ⟨x, y, w, wx, wy, ww, rfl, rfl⟩ := sLw3_some hs
  refine ⟨by simp [lf13], ?_⟩
  have aw := sAwake3_nil
  have hfew1 : f2 fewP [x.enc, y.enc] = some (.bool (fewF x y)) := f2_at wx wy
  have hfew2 : f2 fewP [w.enc, w.enc] = some (.bool (fewF w w)) := f2_at ww ww
  have v1 := vF wx
  have v2 := vF wy
  have v3 := vF ww
  cases hf1 : fewF x y with
  | false => rw [hf1] at hfew1; simp only [Fr.enc] at hfew1 ⊢; simp [lf13, hfew1, aw, fillS, Tl3_mu, Tl3_fns]
  | true =>
  rw [hf1] at hfew1
  cases hf2 : fewF w w with
  | false => rw [hf2] at hfew2; simp only [Fr.enc] at hfew1 hfew2 ⊢; simp [lf13, hfew1, hfew2, aw, fillS, Tl3_mu, Tl3_fns]
  | true =>
  rw [hf2] at hfew2
  cases ox : x.ok with
  | false => rw [ox] at v1; simp only [Fr.enc] at hfew1 hfew2 v1 ⊢; simp [lf13, hfew1, hfew2, v1, aw, fillS, Tl3_mu, Tl3_fns]
  | true =>
  rw [ox] at v1
  cases oy : y.ok with
  | false => rw [oy] at v2; simp only [Fr.enc] at hfew1 hfew2 v1 v2 ⊢; simp [lf13, hfew1, hfew2, v1, v2, aw, fillS, Tl3_mu, Tl3_fns]
  | true =>
  rw [oy] at v2
  cases ow : w.ok with
  | false => rw [ow] at v3; simp only [Fr.enc] at hfew1 hfew2 v1 v2 v3 ⊢; simp [lf13, hfew1, hfew2, v1, v2, v3, aw, fillS, Tl3_mu, Tl3_fns]
  | true =>
  rw [ow] at v3
  obtain ⟨a, ha64, rfl⟩ := Fr.ok_of ox
  obtain ⟨b, hb64, rfl⟩ := Fr.ok_of oy
  obtain ⟨c, hc64, rfl⟩ := Fr.ok_of ow
  obtain ⟨ha, hb⟩ := few_Sm hf1
  obtain ⟨hc, _⟩ := few_Sm hf2
  have s1 := addP_num ha64 hb64 (Sm_mono (Sm_add ha hb) (by omega))
  have s2 := addP_num hb64 ha64 (Sm_mono (Sm_add hb ha) (by omega))
  have hab : Sm 21 (a + b) := Sm_add ha hb
  have hab64 : Sm 64 (a + b) := Sm_mono hab (by omega)
  have s3 := subP_num hab64 hb64 (Sm_mono (Sm_sub hab hb) (by omega))
  have s4 := mulP_num hab64 hc64 (Sm_mono (Sm_mul hab hc) (by omega))
  have s5 := mulP_num ha64 hc64 (Sm_mono (Sm_mul ha hc) (by omega))
  have s6 := mulP_num hb64 hc64 (Sm_mono (Sm_mul hb hc) (by omega))
  have hac : Sm 20 (a * c) := Sm_mul ha hc
  have hbc : Sm 20 (b * c) := Sm_mul hb hc
  have hac64 : Sm 64 (a * c) := Sm_mono hac (by omega)
  have hbc64 : Sm 64 (b * c) := Sm_mono hbc (by omega)
  have s7 := addP_num hac64 hbc64 (Sm_mono (Sm_add hac hbc) (by omega))
  rw [Rat.add_comm b a] at s2
  rw [Rat.add_sub_cancel] at s3
  rw [← Rat.add_mul] at s7
  have hp64 : Sm 64 ((a + b) * c) := Sm_mono (Sm_mul hab hc) (by omega)
  have v4 := vQ hp64
  have e1 := sameP_self (a + b)
  have e2 := sameP_self a
  have e3 := sameP_self ((a + b) * c)
  have g1 := signP_num hc64
  have g2 := signP_num hp64
  by_cases hc0 : c = 0
  · have hz1 : cmpQ c 0 = 0 := by rw [hc0, cmpQ_eq]
    have hz2 : cmpQ ((a + b) * c) 0 = 0 := by rw [hc0, Rat.mul_zero, cmpQ_eq]
    rw [hz1] at g1
    rw [hz2] at g2
    simp only [pairF, Fr.enc] at hfew1 hfew2 v1 v2 v3 v4 s1 s2 s3 s4 s5 s6 s7 e1 e2 e3 g1 g2 ⊢
    simp [lf13, hfew1, hfew2, v1, v2, v3, v4, s1, s2, s3, s4, s5, s6, s7, e1, e2, e3, g1, g2, aw, fillS, Tl3_mu, Tl3_fns]
  · have hn1 : (cmpQ c 0 == 0) = false := beq_false_of_ne (fun e => hc0 (cmpQ_zero_iff.1 e))
    have s8 := quoP_num hac64 hc64 hc0 (Sm_mono (Sm_div hac hc hc0) (by omega))
    rw [Rat.mul_div_cancel hc0] at s8
    obtain ⟨k, hk⟩ : ∃ k, k = cmpQ c 0 := ⟨_, rfl⟩
    rw [← hk] at g1 hn1
    simp only [pairF, Fr.enc] at hfew1 hfew2 v1 v2 v3 v4 s1 s2 s3 s4 s5 s6 s7 s8 e1 e2 e3 g1 ⊢
    simp [lf13, hfew1, hfew2, v1, v2, v3, v4, s1, s2, s3, s4, s5, s6, s7, s8, e1, e2, e3, g1, hn1, aw, fillS, Tl3_mu, Tl3_fns]
end Go.Proofs.YtoechbpjfkabmaaGreatDoor
