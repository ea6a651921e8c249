/-
  UfTables returns true for every input: the open row. No conditions beyond the row's own.
-/
import Derived.Test.YtgbjjikaenlkmaaGreatUfR
import Derived.Test.YtgbjjikaenlkmaaGreatUfE
set_option linter.unusedSimpArgs false
set_option linter.unnecessarySimpa false
set_option linter.unusedVariables false
set_option linter.constructorNameAsVariable false

namespace Go.Proofs.YtgbjjikaenlkmaaGreat
open Go Go.Abs Go.ChangeShapes Go.WideShapes Go.ChangeAt Go.WideMaps Go.WideElems Go.RowKit
set_option maxRecDepth 100000 in
theorem nE (os : Os) (started : os.Started) (H : Type) (enc : TypeId × Value → H) :
  ReturnsInHanded {} Tryz.checked os 4 .any (Rows.ufTablesSpec.pre6 enc Tryz.prog Tryz.f4 Rows.ufTablesRow.domain false) (Rows.ufTablesSpec.post enc Tryz.prog Tryz.f4 false true false false) := by
 refine returnsInHanded_of_change (C := Tryz.checked) own started (by kernel_rfl) Tryz.func4
  (ChangeSpec.witness6 (enc := enc) (C := Tryz.checked) false ⟨#[], #[.slice none 0 0, .slice none 0 0], []⟩ 8 (by kernel_rfl) (by kernel_rfl) (by kernel_rfl) (by kernel_rfl)) ?_
 intro W base args ds gs before hval0 hW hcnd _
 have hval : ∀ (j : Nat) t v, Tryz.f4.params[j]? = some t → args[j]? = some v → Value.okWide Tryz.prog W .any base t v := hval0
 have hW' := hW
 obtain ⟨p, q, hA0, hV, rfl, hfz, hnd⟩ := hW
 have hA : DataW.TrodAll enc Tryz.prog W 0 (fun _ => true) true Tryz.f4.params.toList args.toList ds p := hA0
 rw [Tryz.params4] at hA hval
 obtain ⟨v0, vs0, d0, ds0, p0, q0, hargs, rfl, rfl, h0, r0⟩ := trodAll_cons hA
 obtain ⟨v1, vs1, d1, ds1, p1, q1, rfl, rfl, rfl, h1, r1⟩ := trodAll_cons r0
 obtain ⟨rfl, rfl, rfl⟩ := trodAll_nil r1
 obtain rfl : args = #[v0, v1] := by cases args; simp_all
 obtain ⟨rfl, rfl⟩ := trodVars_none hV
 obtain ⟨x0, w0, hp0⟩ := tz (hval 0 22 v0 rfl rfl) h0
 obtain ⟨x1, w1, hp1⟩ := tz (hval 1 22 v1 rfl rfl) h1
 have hcall := law_of_fn (base := base0) xh of_any (ps := [.lst (x0.map cI.enc), .lst (x1.map cI.enc)]) (vs := [v0, v1]) rfl (fun j x v hx hv => by
  match j, hx, hv with
  | 0, hx, hv => cases hx; cases hv; exact hp0
  | 1, hx, hv => cases hx; cases hv; exact hp1) (show bP [.lst (x0.map cI.enc), .lst (x1.map cI.enc)] = _ from by simp only [bP, cI.deL x0 (fun _ _ => trivial), cI.deL x1 (fun _ _ => trivial)])
 clear hA0 hval0
 simp only [List.append_nil] at hW'
 refine hcall.mono fun e W' ⟨he, hbl⟩ => ?_
 subst he
 have hlt : ∀ x ∈ p0 ++ (p1), x.block < W.heap.size := fun x hx => by simpa using hW'.lt x hx
 refine ⟨_, rfl, iH (pa := p0 ++ (p1)) (pv := []) hW' (fun _ _ _ => ?_) (fun sp hsp => ?_) (fun _ _ => rfl) (by simp) hbl (ok_one (by kernel_rfl) rfl (okWide_bool_mk Tryz.underlying4 _))⟩
 ·exact trodAll_mk1 (shut_bool Tryz.underlying4 _)
 ·have k0 : DataW.Trod enc Tryz.prog W' 0 sp true 22 v0 d0 p0 := WideElems.Trod_stays laidOut (by kernel_rfl) (of_decide_eq_true (by kernel_rfl)) h0 (fun x hx => hbl.same (hlt x (by simp [hx]))) (fun x hx => hsp x (by simp [hx]))
  have k1 : DataW.Trod enc Tryz.prog W' 0 sp true 22 v1 d1 p1 := WideElems.Trod_stays laidOut (by kernel_rfl) (of_decide_eq_true (by kernel_rfl)) h1 (fun x hx => hbl.same (hlt x (by simp [hx]))) (fun x hx => hsp x (by simp [hx]))
  exact (trodAll_cons_mk k0 (trodAll_mk1 k1))
theorem ufTables_said : Rows.UfTablesSaid :=
 OpenClaim.holds_of_wide 4 Tryz.f4 rfl rfl rfl rfl rfl rfl rfl ⟨rfl, rfl, rfl, rfl, rfl⟩ rfl rfl rfl rfl rfl (by kernel_rfl) Tryz.func4 (by kernel_rfl)
  (of_decide_eq_true (by kernel_rfl)) (by unfold Func.isWrapper; first | (rw [if_pos (by decide +kernel)]; kernel_rfl) | (rw [if_neg (by decide +kernel)]; exact ⟨rfl, rfl⟩))
  (fun os started H enc _ => nE os started H enc)
#print axioms ufTables_said
end Go.Proofs.YtgbjjikaenlkmaaGreat
