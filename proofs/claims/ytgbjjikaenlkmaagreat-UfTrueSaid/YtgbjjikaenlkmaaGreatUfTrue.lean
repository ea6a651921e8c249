/-
  UfTrue returns true for every input: the open row. No conditions beyond the row's own.
-/
import Derived.Test.YtgbjjikaenlkmaaGreatUfR
import Derived.Test.YtgbjjikaenlkmaaGreatUfJ
set_option linter.unusedSimpArgs false
set_option linter.unnecessarySimpa false
set_option linter.unusedVariables false
set_option linter.constructorNameAsVariable false

namespace Go.Proofs.YtgbjjikaenlkmaaGreat
open Go Go.Abs Go.ChangeShapes Go.WideShapes Go.ChangeAt Go.WideMaps Go.WideElems Go.RowKit
set_option maxRecDepth 100000 in
theorem tO (os : Os) (started : os.Started) (H : Type) (enc : TypeId × Value → H) :
  ReturnsInHanded {} Tryz.checked os 3 .any (Rows.ufTrueSpec.pre6 enc Tryz.prog Tryz.f3 Rows.ufTrueRow.domain false) (Rows.ufTrueSpec.post enc Tryz.prog Tryz.f3 false true false false) := by
 refine returnsInHanded_of_change (C := Tryz.checked) own started (by kernel_rfl) Tryz.func3
  (ChangeSpec.witness6 (enc := enc) (C := Tryz.checked) false ⟨#[], #[.slice none 0 0, .int .i64 0, .slice none 0 0, .slice none 0 0, .slice none 0 0], []⟩ 8 (by kernel_rfl) (by kernel_rfl) (by kernel_rfl) (by kernel_rfl)) ?_
 intro W base args ds gs before hval0 hW hcnd _
 have hval : ∀ (j : Nat) t v, Tryz.f3.params[j]? = some t → args[j]? = some v → Value.okWide Tryz.prog W .any base t v := hval0
 have hW' := hW
 obtain ⟨p, q, hA0, hV, rfl, hfz, hnd⟩ := hW
 have hA : DataW.TrodAll enc Tryz.prog W 0 (fun _ => true) true Tryz.f3.params.toList args.toList ds p := hA0
 rw [Tryz.params3] at hA hval
 obtain ⟨v0, vs0, d0, ds0, p0, q0, hargs, rfl, rfl, h0, r0⟩ := trodAll_cons hA
 obtain ⟨v1, vs1, d1, ds1, p1, q1, rfl, rfl, rfl, h1, r1⟩ := trodAll_cons r0
 obtain ⟨v2, vs2, d2, ds2, p2, q2, rfl, rfl, rfl, h2, r2⟩ := trodAll_cons r1
 obtain ⟨v3, vs3, d3, ds3, p3, q3, rfl, rfl, rfl, h3, r3⟩ := trodAll_cons r2
 obtain ⟨v4, vs4, d4, ds4, p4, q4, rfl, rfl, rfl, h4, r4⟩ := trodAll_cons r3
 obtain ⟨rfl, rfl, rfl⟩ := trodAll_nil r4
 obtain rfl : args = #[v0, v1, v2, v3, v4] := by cases args; simp_all
 obtain ⟨rfl, rfl⟩ := trodVars_none hV
 obtain ⟨x0, w0, hp0⟩ := cG (hval 0 22 v0 rfl rfl) h0
 obtain ⟨x1, w1, hp1⟩ := l7 (hval 1 3 v1 rfl rfl) h1
 obtain ⟨x2, w2, hp2⟩ := cG (hval 2 22 v2 rfl rfl) h2
 obtain ⟨x3, w3, hp3⟩ := cG (hval 3 22 v3 rfl rfl) h3
 obtain ⟨x4, w4, hp4⟩ := cG (hval 4 22 v4 rfl rfl) h4
 have hcall := law_of_fn (base := base0) true_ok of_any (ps := [.lst (x0.map cI.enc), .int .i64 x1, .lst (x2.map cI.enc), .lst (x3.map cI.enc), .lst (x4.map cI.enc)]) (vs := [v0, v1, v2, v3, v4]) rfl (fun j x v hx hv => by
  match j, hx, hv with
  | 0, hx, hv => cases hx; cases hv; exact hp0
  | 1, hx, hv => cases hx; cases hv; exact hp1
  | 2, hx, hv => cases hx; cases hv; exact hp2
  | 3, hx, hv => cases hx; cases hv; exact hp3
  | 4, hx, hv => cases hx; cases hv; exact hp4) (show pK [.lst (x0.map cI.enc), .int .i64 x1, .lst (x2.map cI.enc), .lst (x3.map cI.enc), .lst (x4.map cI.enc)] = _ from by simp only [pK, cI.deL x0 (fun _ _ => trivial), cI.deL x2 (fun _ _ => trivial), cI.deL x3 (fun _ _ => trivial), cI.deL x4 (fun _ _ => trivial)])
 clear hA0 hval0
 simp only [List.append_nil] at hW'
 refine hcall.mono fun e W' ⟨he, hbl⟩ => ?_
 subst he
 have hlt : ∀ x ∈ p0 ++ (p1 ++ (p2 ++ (p3 ++ (p4)))), x.block < W.heap.size := fun x hx => by simpa using hW'.lt x hx
 refine ⟨_, rfl, l8 (pa := p0 ++ (p1 ++ (p2 ++ (p3 ++ (p4))))) (pv := []) hW' (fun _ _ _ => ?_) (fun sp hsp => ?_) (fun _ _ => rfl) (by simp) hbl (ok_one (by kernel_rfl) rfl (okWide_bool_mk Tryz.underlying4 _))⟩
 ·exact trodAll_mk1 (shut_bool Tryz.underlying4 _)
 ·have k0 : DataW.Trod enc Tryz.prog W' 0 sp true 22 v0 d0 p0 := WideElems.Trod_stays laidOut (by kernel_rfl) (of_decide_eq_true (by kernel_rfl)) h0 (fun x hx => hbl.same (hlt x (by simp [hx]))) (fun x hx => hsp x (by simp [hx]))
  have k1 : DataW.Trod enc Tryz.prog W' 0 sp true 3 v1 d1 p1 := WideElems.Trod_stays laidOut (by kernel_rfl) (of_decide_eq_true (by kernel_rfl)) h1 (fun x hx => hbl.same (hlt x (by simp [hx]))) (fun x hx => hsp x (by simp [hx]))
  have k2 : DataW.Trod enc Tryz.prog W' 0 sp true 22 v2 d2 p2 := WideElems.Trod_stays laidOut (by kernel_rfl) (of_decide_eq_true (by kernel_rfl)) h2 (fun x hx => hbl.same (hlt x (by simp [hx]))) (fun x hx => hsp x (by simp [hx]))
  have k3 : DataW.Trod enc Tryz.prog W' 0 sp true 22 v3 d3 p3 := WideElems.Trod_stays laidOut (by kernel_rfl) (of_decide_eq_true (by kernel_rfl)) h3 (fun x hx => hbl.same (hlt x (by simp [hx]))) (fun x hx => hsp x (by simp [hx]))
  have k4 : DataW.Trod enc Tryz.prog W' 0 sp true 22 v4 d4 p4 := WideElems.Trod_stays laidOut (by kernel_rfl) (of_decide_eq_true (by kernel_rfl)) h4 (fun x hx => hbl.same (hlt x (by simp [hx]))) (fun x hx => hsp x (by simp [hx]))
  exact (trodAll_cons_mk k0 (trodAll_cons_mk k1 (trodAll_cons_mk k2 (trodAll_cons_mk k3 (trodAll_mk1 k4)))))
theorem ufTrue_said : Rows.UfTrueSaid :=
 OpenClaim.holds_of_wide 3 Tryz.f3 rfl rfl rfl rfl rfl rfl rfl ⟨rfl, rfl, rfl, rfl, rfl⟩ rfl rfl rfl rfl rfl (by kernel_rfl) Tryz.func3 (by kernel_rfl)
  (of_decide_eq_true (by kernel_rfl)) (by unfold Func.isWrapper; first | (rw [if_pos (by decide +kernel)]; kernel_rfl) | (rw [if_neg (by decide +kernel)]; exact ⟨rfl, rfl⟩))
  (fun os started H enc _ => tO os started H enc)
#print axioms ufTrue_said
end Go.Proofs.YtgbjjikaenlkmaaGreat
