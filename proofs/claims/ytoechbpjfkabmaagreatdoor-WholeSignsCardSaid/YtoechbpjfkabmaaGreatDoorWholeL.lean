/-
  What a row of whole numbers asks of its arguments. No conditions beyond the lemmas' own hypotheses.
-/
import Derived.Test.YtoechbpjfkabmaaGreatDoorNatL
import Derived.ChangeSame
set_option linter.unusedSimpArgs false
set_option linter.unusedVariables false
set_option linter.constructorNameAsVariable false

/-
  What a row asks: arguments that are whole numbers.
-/
namespace Go.Abs
open Go.ChangeShapes Go.WideShapes Go.ChangeAt Go.WideMaps Go.WideElems Go.RowKit Go.Limbs
section
variable {H : Type} {enc : TypeId × Value → H} {P : Program} {W : World} {sp : Nat → Bool}
theorem prep_row {t e : TypeId} {cs : List Value} {x : DataW H × List MemPlace} {fuel : Nat} (ht : P.underlying t = some (.slice e)) (he : P.underlying e = some (.int .u64)) (hc : P.cellsOf e = 1)
    (hf : DataW.trod enc P W 0 sp true fuel t cs = some x) : ∃ (v : Value) (l : List Nat), cs = [v] ∧ Wf l ∧ PRep (allCells W) (.lst (l.map u64)) v := by
  rcases open_ints ht he hc hf with ⟨rfl, _⟩ | ⟨a, len, cap, zs, rfl, _, hlc, hcm, hzl, _, hcell, hwf⟩
  · exact ⟨_, [], rfl, Wf.nil, .lst [] none 0 0 1 0 0 (fun _ _ => undef) rfl (Nat.le_refl _) (Nat.zero_le _) (by simp) (by simp) (by simp) (by simp) (by simp)⟩
  · have hlz : len ≤ zs.length := by rw [hzl]; split <;> omega
    have hw : ∀ z ∈ zs, 0 ≤ z ∧ z.toNat < B := fun z hz => by
      have h := hwf z hz
      simp only [Lit.wf, Bool.and_eq_true, decide_eq_true_eq] at h
      have hmin : IntKind.u64.min = 0 := rfl
      have hmax : IntKind.u64.max = 18446744073709551615 := rfl
      rw [hmin, hmax] at h
      rw [B_lit]
      omega
    refine ⟨_, (zs.take len).map Int.toNat, rfl, fun x hx => by
      obtain ⟨z, hz, rfl⟩ := List.mem_map.1 hx
      exact (hw z (List.mem_of_mem_take hz)).2, .lst _ (some a) len cap 1 a.block a.off (fun i _ => .int .u64 (zs.getD i 0)) (by simp; omega) hlc hcm (fun hne => ?_) (fun e he => ?_) (fun i j hi hj => ?_) (fun i e j x hi hx => ?_) (fun e he x hx => ?_)⟩
    · have hlen : 0 < zs.length := by
        rcases Nat.eq_zero_or_pos len with h0 | h0
        · subst h0; simp at hne
        · omega
      exact addr_head hcell hlen
    · obtain ⟨b, _, rfl⟩ := List.mem_map.1 he
      rfl
    · have hi' : i < zs.length := by simp at hi; omega
      have hj0 : j = 0 := by omega
      subst hj0
      exact addr_at hcell i hi'
    · have hi' : i < len := by
        have := (List.getElem?_eq_some_iff.1 hi).1
        simp at this; omega
      have hz : zs[i]? = some zs[i] := List.getElem?_eq_getElem (by omega)
      simp only [List.getElem?_map, List.getElem?_take, hi', if_true, hz, Option.map_some, Option.some.injEq] at hi
      subst hi
      have hz0 := (hw _ (List.getElem_mem (show i < zs.length by omega))).1
      have hzi : ((zs[i].toNat : Nat) : Int) = zs[i] := by omega
      cases j with
      | succ j => simp [PVal.cells, u64] at hx
      | zero =>
        simp only [PVal.cells, u64, List.getElem?_cons_zero, Option.some.injEq] at hx
        subst hx
        have e1 : zs.getD i 0 = zs[i] := by simp [List.getD, hz]
        simp only [e1, hzi]
        exact .int _ _
    · obtain ⟨b, _, rfl⟩ := List.mem_map.1 he
      simp [PVal.cells, u64] at hx
      subst hx
      rfl
theorem prep_Int {t e : TypeId} {f0 f1 : Field} {v : Value} {d : DataW H} {ps : List MemPlace} {r : Reach} {b0 : Nat} (ht : P.underlying t = some (.struct #[f0, f1])) (o0 : f0.offset = 0) (o1 : f1.offset = 1) (c0 : P.cellsOf f0.type = 1) (c1 : P.cellsOf f1.type = 1) (ct : P.cellsOf t = 2)
    (h0 : P.underlying f0.type = some .bool) (h1 : P.underlying f1.type = some (.slice e)) (he : P.underlying e = some (.int .u64)) (hc : P.cellsOf e = 1)
    (hv : Value.okWide P W r b0 t v) (h : DataW.Trod enc P W 0 sp true t v d ps) : ∃ (s : Bool) (l : List Nat), Wf l ∧ PRep (allCells W) (.agg [.bool s, .lst (l.map u64)]) v := by
  obtain ⟨cs, rfl, hsz⟩ := okWide_struct ht hv
  obtain ⟨fuel, hf⟩ := h
  have hcs : (Value.agg cs).cells.toList = cs.toList := rfl
  rw [hcs] at hf
  obtain ⟨y0, y1, n, -, hl, g0, g1⟩ := trod_struct2 ht hf
  rw [ct] at hsz
  obtain ⟨l⟩ := cs
  simp only [List.size_toArray] at hsz
  match l, hsz with
  | [x0, x1], _ =>
    rw [o0, c0] at g0
    rw [o1, c1] at g1
    simp only [List.drop_zero, List.take_succ_cons, List.take_zero, List.drop_succ_cons] at g0 g1
    obtain ⟨b, hb, _⟩ := DataW.trod_bool h0 g0
    obtain ⟨v1, l, hv1, wl, hp⟩ := prep_row h1 he hc g1
    cases hb
    cases hv1
    refine ⟨b, l, wl, .agg _ [_, _] rfl (fun j x v hx hv => ?_) (fun x hx => ?_)⟩
    · match j, hx, hv with
      | 0, hx, hv => cases hx; cases hv; exact .bool _
      | 1, hx, hv => cases hx; cases hv; exact hp
    · simp only [List.mem_cons, List.mem_nil_iff, or_false] at hx
      rcases hx with rfl | rfl <;> rfl
end
end Go.Abs

/-
  What the rows of whole numbers ask.
-/
namespace Go.Proofs.YtoechbpjfkabmaaGreatDoor
open Go Go.Abs Go.ChangeShapes Go.WideShapes Go.ChangeAt Go.WideMaps Go.WideElems Go.RowKit
set_option maxRecDepth 100000 in
theorem prep_whole {H : Type} {enc : TypeId × Value → H} {W : World} {sp : Nat → Bool} {v : Value} {d : DataW H} {ps : List MemPlace} {r : Reach} {b0 : Nat} (hv : Value.okWide Tryz.prog W r b0 24 v) (h : DataW.Trod enc Tryz.prog W 0 sp true 24 v d ps) :
    ∃ (s : Bool) (l : List Nat), Limbs.Wf l ∧ PRep (allCells W) (.agg [.bool s, .lst (l.map u64)]) v :=
  prep_Int Tryz.underlying24 rfl rfl (by kernel_rfl) (by kernel_rfl) (by kernel_rfl) Tryz.underlying4 Tryz.underlying22 Tryz.underlying53 cellsU hv h
end Go.Proofs.YtoechbpjfkabmaaGreatDoor
