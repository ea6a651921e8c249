/-
  ScriptLevels answers true for every input: the tied card. No conditions.
-/
import Derived.Test.YtcbagnlidecmkaaGreatDoorScriptR
import Derived.Test.YtcbagnlidecmkaaGreatDoorScriptJ
set_option linter.unusedSimpArgs false
set_option linter.unnecessarySimpa false
set_option linter.unusedVariables false
set_option linter.constructorNameAsVariable false

/-
 law13: ScriptLevels' row and card.
-/
namespace Go.Proofs.YtcbagnlidecmkaaGreatDoor
open Go Go.Abs Go.ChangeShapes Go.WideShapes Go.ChangeAt Go.WideMaps Go.WideElems Go.RowKit
set_option maxRecDepth 100000 in
theorem prep_int64 {H : Type} {enc : TypeId × Value → H} {W : World} {sp : Nat → Bool} {v : Value} {d : DataW H} {ps : List MemPlace} {r : Reach} {b0 : Nat} (hv : Value.okWide Tryz.prog W r b0 3 v) (h : DataW.Trod enc Tryz.prog W 0 sp true 3 v d ps) :
  ∃ n : Int, (-9223372036854775808 ≤ n ∧ n < 9223372036854775808) ∧ PRep (allCells W) (.int .i64 n) v := by
 obtain ⟨n, rfl, h1, h2, h3⟩ := open_int Tryz.underlying3 hv h
 refine ⟨n, ?_, .int _ _⟩
 simp only [Lit.wf, Bool.and_eq_true, decide_eq_true_eq] at h3
 have hmin : IntKind.i64.min = -9223372036854775808 := rfl
 have hmax : IntKind.i64.max = 9223372036854775807 := rfl
 rw [hmin, hmax] at h3
 omega
set_option maxRecDepth 100000 in
theorem slevels_lifted (os : Os) (started : os.Started) (H : Type) (enc : TypeId × Value → H) :
  ReturnsInHanded {} Tryz.checked os 7 .any (fun w args => (Rows.scriptLevelsSpec.pre enc Tryz.prog Tryz.f7 [] false w args ∧ laidMetH Tryz.prog rowLaid w) ∧ sizedMet enc Tryz.prog Tryz.f7 (OpenSpec.ofChange Rows.scriptLevelsSpec) false w args)
   (Rows.scriptLevelsSpec.post enc Tryz.prog Tryz.f7 false true false false) := by
 refine handed_shaped (C := Tryz.checked) (X := fun w _ => laidMetH Tryz.prog rowLaid w) (fun _ _ _ hh h => h.of_heap hh) own started (by kernel_rfl) Tryz.func7
  (ChangeSpec.witness_shaped (enc := enc) (C := Tryz.checked) (os := os) (X := fun w _ => laidMetH Tryz.prog rowLaid w) false (World.laidAll Tryz.prog os rowLaid) #[.int .i64 0, .bool false, .bool false] 8 (World.laidAll_os _ _ _) (door_shaped os _) (by kernel_rfl) (by kernel_rfl) (by kernel_rfl) (door_met os _)) ?_
 intro W base args ds gs before hval0 hW hL hsh
 have hval : ∀ (j : Nat) t v, Tryz.f7.params[j]? = some t → args[j]? = some v → Value.okWide Tryz.prog W .any base t v := hval0
 have hW' := hW
 obtain ⟨p, q, hA0, hV, rfl, hfz, hnd⟩ := hW
 have hA : DataW.TrodAll enc Tryz.prog W 0 (fun _ => true) true Tryz.f7.params.toList args.toList ds p := hA0
 rw [Tryz.params7] at hA hval
 obtain ⟨v0, vs0, d0, ds0, p0, q0, hargs, rfl, rfl, h0, r0⟩ := trodAll_cons hA
 obtain ⟨v1, vs1, d1, ds1, p1, q1, rfl, rfl, rfl, h1, r1⟩ := trodAll_cons r0
 obtain ⟨v2, vs2, d2, ds2, p2, q2, rfl, rfl, rfl, h2, r2⟩ := trodAll_cons r1
 obtain ⟨rfl, rfl, rfl⟩ := trodAll_nil r2
 obtain rfl : args = #[v0, v1, v2] := by cases args; simp_all
 obtain ⟨rfl, rfl⟩ := trodVars_none hV
 obtain ⟨m, hm⟩ := someM hsh
 obtain ⟨x0, w0, hp0⟩ := prep_int64 (hval 0 3 v0 rfl rfl) h0
 obtain ⟨x1, hp1⟩ : ∃ s : Bool, PRep (allCells W) (.bool s) v1 := by
  obtain ⟨s, rfl, _, _⟩ := open_bool Tryz.underlying4 (hval 1 4 v1 rfl rfl) h1
  exact ⟨s, .bool _⟩
 obtain ⟨x2, hp2⟩ : ∃ s : Bool, PRep (allCells W) (.bool s) v2 := by
  obtain ⟨s, rfl, _, _⟩ := open_bool Tryz.underlying4 (hval 2 4 v2 rfl rfl) h2
  exact ⟨s, .bool _⟩
 have hcall := law_of_fn (levels13_ok (m := m)) (of_laid hL hm) (ps := [.int .i64 x0, .bool x1, .bool x2]) (vs := [v0, v1, v2]) rfl (fun j x v hx hv => by
  match j, hx, hv with
  | 0, hx, hv => cases hx; cases hv; exact hp0
  | 1, hx, hv => cases hx; cases hv; exact hp1
  | 2, hx, hv => cases hx; cases hv; exact hp2) (if_pos w0)
 clear hA0 hval0
 simp only [List.append_nil] at hW'
 refine hcall.mono fun e W' ⟨he, hbl⟩ => ?_
 subst he
 have hlt : ∀ x ∈ p0 ++ (p1 ++ (p2)), x.block < W.heap.size := fun x hx => by simpa using hW'.lt x hx
 refine ⟨_, rfl, post_below (pa := p0 ++ (p1 ++ (p2))) (pv := []) hW' (fun _ _ _ => ?_) (fun sp hsp => ?_) (fun _ _ => rfl) (by simp) hbl (ok_one (by kernel_rfl) rfl (okWide_bool_mk Tryz.underlying4 _))⟩
 ·exact trodAll_mk1 (shut_bool Tryz.underlying4 _)
 ·have k0 : DataW.Trod enc Tryz.prog W' 0 sp true 3 v0 d0 p0 := WideElems.Trod_stays laidOut (by kernel_rfl) (of_decide_eq_true (by kernel_rfl)) h0 (fun x hx => hbl.same (hlt x (by simp [hx]))) (fun x hx => hsp x (by simp [hx]))
  have k1 : DataW.Trod enc Tryz.prog W' 0 sp true 4 v1 d1 p1 := WideElems.Trod_stays laidOut (by kernel_rfl) (of_decide_eq_true (by kernel_rfl)) h1 (fun x hx => hbl.same (hlt x (by simp [hx]))) (fun x hx => hsp x (by simp [hx]))
  have k2 : DataW.Trod enc Tryz.prog W' 0 sp true 4 v2 d2 p2 := WideElems.Trod_stays laidOut (by kernel_rfl) (of_decide_eq_true (by kernel_rfl)) h2 (fun x hx => hbl.same (hlt x (by simp [hx]))) (fun x hx => hsp x (by simp [hx]))
  exact trodAll_mk3 k0 k1 k2
theorem slevels_holds : Rows.ScriptLevelsSaid :=
 OpenClaim.holds_of_wide 7 Tryz.f7 rfl rfl rfl rfl rfl rfl rfl ⟨rfl, rfl, rfl, rfl, rfl⟩ rfl rfl rfl rfl rfl (by kernel_rfl) Tryz.func7 (by kernel_rfl)
  (of_decide_eq_true (by kernel_rfl)) (by unfold Func.isWrapper; first | (rw [if_pos (by decide +kernel)]; kernel_rfl) | (rw [if_neg (by decide +kernel)]; exact ⟨rfl, rfl⟩))
  (fun os started H enc _ => slevels_lifted os started H enc)
theorem slevels_plain (f : FuncId) (fn : Func) (hf : Tryz.pinned.checked.prog.funcNamed Rows.scriptLevelsRow.func = some f) (hfn : Tryz.pinned.checked.prog.funcs[f]? = some fn) :
  true = Tryz.pinned.checked.prog.looks [] ∧ ∀ (j : Nat) t, fn.params[j]? = some t → Tryz.pinned.checked.prog.wantsStandIn t = false := by
 obtain rfl : f = 7 := Option.some.inj ((show Tryz.prog.funcNamed Rows.scriptLevelsRow.func = some 7 by kernel_rfl).symm.trans hf) |>.symm
 obtain rfl : fn = Tryz.f7 := (Option.some.inj (Tryz.func7.symm.trans hfn)).symm
 refine ⟨by kernel_rfl, fun j t ht => ?_⟩
 rw [Tryz.params7] at ht
 have hm : t ∈ [3, 4, 4] := by simpa using Array.mem_of_getElem? ht
 have hall : ([3, 4, 4].all fun u => !Tryz.prog.wantsStandIn u) = true := by kernel_rfl
 exact (show Tryz.prog.wantsStandIn t = false by simpa using List.all_eq_true.1 hall t hm)
theorem scriptLevels_card : Rows.ScriptLevelsCardSaid :=
 Claim7.holds_tied_plain_at .later [] _ _ _ _ slevels_holds (fun _ h => by cases h) (by kernel_rfl) (fun _ h => by cases h) scriptLevels_row_tie rfl ⟨rfl, rfl⟩ (by kernel_rfl) rfl slevels_plain (by kernel_rfl)
#print axioms scriptLevels_card
end Go.Proofs.YtcbagnlidecmkaaGreatDoor
