/-
  law5: QuickWhole answers true for every input. AcvNo conditions.
-/
import Derived.Test.YtbdccebpehogjaaQuickR
import Derived.Test.YtbdccebpehogjaaQuickG
set_option linter.unusedSimpArgs false
set_option linter.unnecessarySimpa false
set_option linter.unusedVariables false
set_option linter.constructorNameAsVariable false

/-
 law5: QuickWhole's row.
-/
namespace Go.Proofs.Ytbdccebpehogjaa
open Go Go.Abs Go.ChangeShapes Go.WideShapes Go.ChangeAt Go.WideMaps Go.WideElems Go.RowKit
set_option maxRecDepth 100000 in
theorem quickWhole_lifted (os : Os) (started : os.Started) (H : Type) (enc : TypeId × Value → H) :
  ReturnsInHanded {} Try.checked os 8 .any (Rows.quickWholeSpec.pre6 enc Try.prog Try.f8 Rows.quickWholeRow.domain false) (Rows.quickWholeSpec.post enc Try.prog Try.f8 false true false false) := by
 refine returnsInHanded_of_change (C := Try.checked) own started (by kernel_rfl) Try.func8
  (ChangeSpec.witness6 (enc := enc) (C := Try.checked) false ⟨#[], #[.int .i64 0, .int .i64 0], []⟩ 8 (by kernel_rfl) (by kernel_rfl) (by kernel_rfl) (by kernel_rfl)) ?_
 intro W base args ds gs before hval0 hW hcnd _
 have hval : ∀ (j : Nat) t v, Try.f8.params[j]? = some t → args[j]? = some v → Value.okWide Try.prog W .any base t v := hval0
 have hW' := hW
 obtain ⟨p, q, hA0, hV, rfl, hfz, hnd⟩ := hW
 have hA : DataW.TrodAll enc Try.prog W 0 (fun _ => true) true Try.f8.params.toList args.toList ds p := hA0
 rw [Try.params8] at hA hval
 obtain ⟨v0, vs0, d0, ds0, p0, q0, hargs, rfl, rfl, h0, r0⟩ := trodAll_cons hA
 obtain ⟨v1, vs1, d1, ds1, p1, q1, rfl, rfl, rfl, h1, r1⟩ := trodAll_cons r0
 obtain ⟨rfl, rfl, rfl⟩ := trodAll_nil r1
 obtain rfl : args = #[v0, v1] := by cases args; simp_all
 obtain ⟨rfl, rfl⟩ := trodVars_none hV
 obtain ⟨x0, w0, hp0⟩ := prep_int64 (hval 0 3 v0 rfl rfl) h0
 obtain ⟨x1, w1, hp1⟩ := prep_int64 (hval 1 3 v1 rfl rfl) h1
 have hcall := law_of_fn (base := base0) whole5_ok of_any (ps := [.int .i64 x0, .int .i64 x1]) (vs := [v0, v1]) rfl (fun j x v hx hv => by
  match j, hx, hv with
  | 0, hx, hv => cases hx; cases hv; exact hp0
  | 1, hx, hv => cases hx; cases hv; exact hp1) (rfl)
 clear hA0 hval0
 simp only [List.append_nil] at hW'
 refine hcall.mono fun e W' ⟨he, hbl⟩ => ?_
 subst he
 have hlt : ∀ x ∈ p0 ++ (p1), x.block < W.heap.size := fun x hx => by simpa using hW'.lt x hx
 refine ⟨_, rfl, post_below (pa := p0 ++ (p1)) (pv := []) hW' (fun _ _ _ => ?_) (fun sp hsp => ?_) (fun _ _ => rfl) (by simp) hbl (ok_one (by kernel_rfl) rfl (okWide_bool_mk Try.underlying4 _))⟩
 ·exact trodAll_mk1 (shut_bool Try.underlying4 _)
 ·have k0 : DataW.Trod enc Try.prog W' 0 sp true 3 v0 d0 p0 := WideElems.Trod_stays laidOut (by kernel_rfl) (of_decide_eq_true (by kernel_rfl)) h0 (fun x hx => hbl.same (hlt x (by simp [hx]))) (fun x hx => hsp x (by simp [hx]))
  have k1 : DataW.Trod enc Try.prog W' 0 sp true 3 v1 d1 p1 := WideElems.Trod_stays laidOut (by kernel_rfl) (of_decide_eq_true (by kernel_rfl)) h1 (fun x hx => hbl.same (hlt x (by simp [hx]))) (fun x hx => hsp x (by simp [hx]))
  exact (trodAll_cons_mk k0 (trodAll_mk1 k1))
theorem quickWhole_said : Rows.QuickWholeSaid :=
 OpenClaim.holds_of_wide 8 Try.f8 rfl rfl rfl rfl rfl rfl rfl ⟨rfl, rfl, rfl, rfl, rfl⟩ rfl rfl rfl rfl rfl (by kernel_rfl) Try.func8 (by kernel_rfl)
  (of_decide_eq_true (by kernel_rfl)) (by unfold Func.isWrapper; first | (rw [if_pos (by decide +kernel)]; kernel_rfl) | (rw [if_neg (by decide +kernel)]; exact ⟨rfl, rfl⟩))
  (fun os started H enc _ => quickWhole_lifted os started H enc)
#print axioms quickWhole_said
end Go.Proofs.Ytbdccebpehogjaa
