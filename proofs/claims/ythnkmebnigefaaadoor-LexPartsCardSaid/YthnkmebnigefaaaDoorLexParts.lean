/-
  LexParts returns true for every input: the tied card of the row. No conditions beyond the row's own.
-/
import Derived.Test.YthnkmebnigefaaaDoorLexJ
import Derived.Test.YthnkmebnigefaaaDoorLexI
import Derived.Test.YthnkmebnigefaaaDoorLexH
set_option linter.unusedSimpArgs false
set_option linter.unusedVariables false
set_option linter.constructorNameAsVariable false

/-
  lex: LexParts.
-/
namespace Go.Proofs.YthnkmebnigefaaaDoor
open Go Go.Abs
set_option maxRecDepth 20000
attribute [local irreducible] vc
attribute [local simp] pureS touchV freezeL fuel shiftV

def sParts : List PVal → Option PVal
  | [.lst es, .lst fs] => match decB es, decB fs with | some _, some _ => some (.bool true) | _, _ => none
  | _ => none

theorem parts_loop {xs ys : List Wd} {a : List UInt8} {Q : LExit → AFr → Heap → Prop} {fr : AFr} {H : Heap} (ha : a.length ≤ 300) (hx : xs.length ≤ 300) (hy : ys.length ≤ 300) (hat : ∀ w ∈ ys, w.at_ ≤ 300)
    (h0 : fr 0 = .p (.lst (a.map b8))) (h5 : fr 5 = .p (.lst (xs.map Wd.v))) (h7 : fr 7 = .p (.lst (ys.map Wd.v))) (h9 : fr 9 = .p (.lst ((xs ++ ys.map (upW (a.length + 1))).map Wd.v))) (h11 : fr 11 = .p (.int .i64 0))
    (hq : ∀ fr' H', Q .normal fr' H') : vc Tl lf7_B0 Q fr H := by
  simp only [lf7_B0, vc_block]
  obtain ⟨zs, hz⟩ : ∃ zs, xs ++ ys.map (upW (a.length + 1)) = zs := ⟨_, rfl⟩
  have hzl : zs.length = xs.length + ys.length := by rw [← hz]; simp
  rw [hz] at h9
  refine loop_ind (fun fr H => ∃ i : Nat, i ≤ zs.length ∧ fr 0 = .p (.lst (a.map b8)) ∧ fr 5 = .p (.lst (xs.map Wd.v)) ∧ fr 7 = .p (.lst (ys.map Wd.v)) ∧ fr 9 = .p (.lst (zs.map Wd.v)) ∧ fr 11 = .p (.int .i64 i)) (fun fr _ => zs.length - ivar (fr 11)) ⟨0, by omega, h0, h5, h7, h9, h11⟩ ?_
  rintro fr H ⟨i, hi, h0, h5, h7, h9, h11⟩
  by_cases h : i < zs.length
  · by_cases hix : i < xs.length
    · obtain ⟨w, hw⟩ : ∃ u, xs[i]? = some u := ⟨_, List.getElem?_eq_getElem hix⟩
      have hwz : zs[i]? = some w := by rw [← hz, List.getElem?_append_left hix, hw]
      obtain ⟨k1, t1, a1⟩ := w
      have hnw := getE hw
      have hnz := getE hwz
      simp [h0, h5, h7, h9, h11, h, hix, hnw, hnz, Wd.v, wordV, eqCells, eqCell, fillA, putCells, ivar, wrap_succ (i := i) (by omega)]
      exact ⟨⟨i + 1, by omega, rfl⟩, by omega⟩
    · have hiy : i - xs.length < ys.length := by omega
      obtain ⟨w, hw⟩ : ∃ u, ys[i - xs.length]? = some u := ⟨_, List.getElem?_eq_getElem hiy⟩
      have hwz : zs[i]? = some (upW (a.length + 1) w) := by rw [← hz, List.getElem?_append_right (by omega), List.getElem?_map, hw]; rfl
      have hw3 := hat w (List.mem_of_getElem? hw)
      obtain ⟨k1, t1, a1⟩ := w
      simp only at hw3
      have hnw := getE hw
      have hnz := getE hwz
      have hs1 : IntKind.i64.wrap ((i : Int) - xs.length) = ((i - xs.length : Nat) : Int) := by rw [IntWalk.i64_in _ (by omega)]; omega
      have hs2 : IntKind.i64.wrap ((a1 : Int) + a.length) = ((a1 + a.length : Nat) : Int) := by rw [IntWalk.i64_in _ (by omega)]; omega
      have hs3 : IntKind.i64.wrap (((a1 + a.length : Nat) : Int) + 1) = ((a1 + (a.length + 1) : Nat) : Int) := by rw [IntWalk.i64_in _ (by omega)]; omega
      simp [h0, h5, h7, h9, h11, h, hix, hiy, hnw, hnz, hs1, hs2, hs3, Wd.v, upW, wordV, eqCells, eqCell, fillA, putCells, ivar, wrap_succ (i := i) (by omega), -Int.natCast_add]
      exact ⟨⟨i + 1, by omega, rfl⟩, by omega⟩
  · have hil : i = zs.length := by omega
    subst hil
    simp [h9, h11]
    exact hq _ _

theorem lex_len {bs : List UInt8} (hb : bs.length ≤ 300) {ws : List Wd} (h : lexL bs.length bs = some ws) : ws.length ≤ 300 ∧ ∀ w ∈ ws, w.at_ ≤ 300 := by
  have := places_len h
  refine ⟨by omega, fun w hw => ?_⟩
  obtain ⟨i, hi⟩ := List.mem_iff_getElem?.1 hw
  obtain ⟨_, p2, _⟩ := lexL_places (bs.length + 1) bs ws (Nat.lt_succ_self _) (List.suffix_refl _) h
  have := (p2 i w hi).1
  omega

theorem parts_ok : FnOk Tryd.prog base1 7 (pureS sParts) := by
  refine pure_of_vc hmix Tl_ok globNone low7 fun args z hs hf => ?_
  unfold sParts at hs
  split at hs
  case h_2 => cases hs
  rename_i es fs
  split at hs
  case h_2 => cases hs
  rename_i a b ha hb
  cases hs
  have := decB_some ha
  subst this
  have := decB_some hb
  subst this
  refine ⟨by simp [lf7], ?_⟩
  by_cases hal : (300 : Int) < a.length
  · simp [lf7, hal, Tl_mu, Tl_8, sAwake_nil]
  by_cases hbl : (300 : Int) < b.length
  · simp [lf7, hal, hbl, Tl_mu, Tl_8, sAwake_nil]
  have hall : ∀ t : List UInt8, sAll [.lst (t.map b8)] = some (.tup [.lst ((allS t).1.map Wd.v), .int .i64 (allS t).2]) := fun t => by simp only [sAll, decB_map]
  have h1 := hall a
  have h2 := hall b
  have h3 := hall (a ++ 10 :: b)
  simp only [List.map_append, List.map_cons] at h3
  replace h3 : sAll [.lst (a.map b8 ++ .int .u8 10 :: b.map b8)] = some (.tup [.lst ((allS (a ++ 10 :: b)).1.map Wd.v), .int .i64 (allS (a ++ 10 :: b)).2]) := h3
  have hres : ∀ G n (t : List UInt8), mapO (resolveV G n) (t.map (AVal.p ∘ b8)) = some (t.map b8) := fun G n t => by
    rw [← List.map_map]; exact mapO_p _ _ _
  have g4 : a.length + 1 + b.length ≤ a.length + (b.length + 1) := by omega
  have gt : List.take (a.length + 1 + b.length) (a.map (AVal.p ∘ b8) ++ AVal.p (.int .u8 10) :: b.map (AVal.p ∘ b8)) = a.map (AVal.p ∘ b8) ++ AVal.p (.int .u8 10) :: b.map (AVal.p ∘ b8) :=
    List.take_of_length_le (by simp; omega)
  have gr : ∀ G n, mapO (resolveV G n) (a.map (AVal.p ∘ b8) ++ AVal.p (.int .u8 10) :: b.map (AVal.p ∘ b8)) = some (a.map b8 ++ .int .u8 10 :: b.map b8) := fun G n => by
    have := hres G n (a ++ 10 :: b)
    simp only [List.map_append, List.map_cons] at this
    exact this
  have gf : ∀ G n, (a.map (AVal.p ∘ b8) ++ AVal.p (.int .u8 10) :: b.map (AVal.p ∘ b8)).flatMap (touchV G n) = [] := fun G n => by
    refine List.flatMap_eq_nil_iff.2 fun x hx => ?_
    have : ∃ y, x = AVal.p y := by
      simp only [List.mem_append, List.mem_map, List.mem_cons] at hx
      rcases hx with ⟨y, _, rfl⟩ | rfl | ⟨y, _, rfl⟩ <;> exact ⟨_, rfl⟩
    obtain ⟨y, rfl⟩ := this
    cases n <;> rfl
  have hM : ∀ n, n ≤ 1000 → n ≤ 140737488355328 ∧ n ≤ maxLen := fun n hn => ⟨by omega, Nat.le_trans hn (by decide)⟩
  have g1 := hM a.length (by omega)
  have g2 := hM (a.length + 1) (by omega)
  have g3 := hM (a.length + 1 + b.length) (by omega)
  cases hx : lexL a.length a with
  | none =>
    rw [all_none (by omega) hx] at h1
    generalize (allS b).1 = wb at h2
    generalize (allS b).2 = eb at h2
    generalize (allS (a ++ 10 :: b)).1 = wz at h3
    generalize (allS (a ++ 10 :: b)).2 = ez at h3
    simp [lf7, hal, hbl, Tl_mu, Tl_8, Tl_9, sAwake_nil, h1, h2, h3, fillS, g1.1, g1.2, g2.1, g2.2, g3.1, g3.2, g4, gt, gr, gf]
  | some xs =>
    rw [all_some (by omega) hx] at h1
    have hp := lex_parts (b := b) hx
    cases hy : lexL b.length b with
    | none =>
      rw [all_none (by omega) hy] at h2
      rw [hy] at hp
      rw [all_none (by simp; omega) hp] at h3
      simp [lf7, hal, hbl, Tl_mu, Tl_8, Tl_9, sAwake_nil, h1, h2, h3, fillS, g1.1, g1.2, g2.1, g2.2, g3.1, g3.2, g4, gt, gr, gf]
    | some ys =>
      rw [all_some (by omega) hy] at h2
      rw [hy] at hp
      rw [all_some (by simp; omega) hp] at h3
      obtain ⟨x1, _⟩ := lex_len (by omega) hx
      obtain ⟨y1, y2⟩ := lex_len (by omega) hy
      have hsum : IntKind.i64.wrap ((xs.length : Int) + ys.length) = ((xs.length + ys.length : Nat) : Int) := by rw [IntWalk.i64_in _ (by omega)]; omega
      obtain ⟨zs, hz⟩ : ∃ zs, xs ++ ys.map (upW (a.length + 1)) = zs := ⟨_, rfl⟩
      have hzl : zs.length = xs.length + ys.length := by rw [← hz]; simp
      simp only [hz] at h3
      simp [lf7, hal, hbl, Tl_mu, Tl_8, Tl_9, sAwake_nil, h1, h2, h3, fillS, g1.1, g1.2, g2.1, g2.2, g3.1, g3.2, g4, gt, gr, gf, hsum, hzl, -Int.natCast_add]
      refine parts_loop (xs := xs) (ys := ys) (a := a) (by omega) x1 y1 y2 ?_ ?_ ?_ ?_ ?_ (fun fr H => ?_)
      · simp
      · simp
      · simp
      · simp [hz]
      · simp
      · simp [Tl_mu, Tl_8, sAwake_nil]
end Go.Proofs.YthnkmebnigefaaaDoor

/-
  lex: LexParts' row and card.
-/
namespace Go.Proofs.YthnkmebnigefaaaDoor
open Go Go.Abs Go.ChangeShapes Go.WideShapes Go.ChangeAt Go.WideMaps Go.WideElems Go.RowKit

set_option maxRecDepth 100000 in
theorem parts_lifted (os : Os) (started : os.Started) (H : Type) (enc : TypeId × Value → H) :
    ReturnsInHanded {} Tryd.checked os 7 .any (fun w args => (Rows.lexPartsSpec.pre enc Tryd.prog Tryd.f7 [] false w args ∧ laidMetH Tryd.prog rowLaid w) ∧ sizedMet enc Tryd.prog Tryd.f7 (OpenSpec.ofChange Rows.lexPartsSpec) false w args)
      (Rows.lexPartsSpec.post enc Tryd.prog Tryd.f7 false true false false) := by
  refine returnsInHanded_of_change_and (C := Tryd.checked) (X := fun w _ => laidMetH Tryd.prog rowLaid w) (fun _ _ _ hh h => h.of_heap hh) own started (by kernel_rfl) Tryd.func7
    (ChangeSpec.witness_shaped (enc := enc) (C := Tryd.checked) (os := os) (X := fun w _ => laidMetH Tryd.prog rowLaid w) false (World.doorLaid Tryd.prog 400 os) #[.slice none 0 0, .slice none 0 0] 8 rfl (World.shaped_of_RefB (by kernel_rfl) (by kernel_rfl)) (by kernel_rfl) (by kernel_rfl) (by kernel_rfl) (door_met os _)) ?_
  intro W base args ds gs before hval0 hW _ _ hL _
  have hval : ∀ (j : Nat) t v, Tryd.f7.params[j]? = some t → args[j]? = some v → Value.okWide Tryd.prog W .any base t v := hval0
  have hW' := hW
  obtain ⟨p, q, hA0, hV, rfl, hfz, hnd⟩ := hW
  have hA : DataW.TrodAll enc Tryd.prog W 0 (fun _ => true) true Tryd.f7.params.toList args.toList ds p := hA0
  rw [Tryd.params7] at hA hval
  obtain ⟨v0, vs0, d0, ds0, p0, q0, hargs, rfl, rfl, h0, r0⟩ := trodAll_cons hA
  obtain ⟨v1, vs1, d1, ds1, p1, q1, rfl, rfl, rfl, h1, r1⟩ := trodAll_cons r0
  obtain ⟨rfl, rfl, rfl⟩ := trodAll_nil r1
  obtain rfl : args = #[v0, v1] := by cases args; simp_all
  obtain ⟨rfl, rfl⟩ := trodVars_none hV
  obtain ⟨x0, hp0⟩ := prep_bytes Tryd.underlying22 Tryd.underlying5 cells5 (hval 0 22 v0 rfl rfl) h0
  obtain ⟨x1, hp1⟩ := prep_bytes Tryd.underlying22 Tryd.underlying5 cells5 (hval 1 22 v1 rfl rfl) h1
  have hcall := law_of_fn parts_ok (of_laid hL) (ps := [.lst (x0.map b8), .lst (x1.map b8)]) (vs := [v0, v1]) rfl (fun j x v hx hv => by
    match j, hx, hv with
    | 0, hx, hv => cases hx; cases hv; exact hp0
    | 1, hx, hv => cases hx; cases hv; exact hp1) (by simp only [sParts, decB_map])
  clear hA0 hval0
  simp only [List.append_nil] at hW'
  refine hcall.mono fun e W' ⟨he, hbl⟩ => ?_
  subst he
  have hlt : ∀ x ∈ p0 ++ p1, x.block < W.heap.size := fun x hx => by simpa using hW'.lt x hx
  refine ⟨_, rfl, post_below (pa := p0 ++ p1) (pv := []) hW' (fun _ _ _ => ?_) (fun sp hsp => ?_) (fun _ _ => rfl) (by simp) hbl (ok_one (by kernel_rfl) rfl (okWide_bool_mk Tryd.underlying4 _))⟩
  · exact trodAll_mk1 (shut_bool Tryd.underlying4 _)
  · have k0 : DataW.Trod enc Tryd.prog W' 0 sp true 22 v0 d0 p0 := WideElems.Trod_stays laidOut (by kernel_rfl) (of_decide_eq_true (by kernel_rfl)) h0 (fun x hx => hbl.same (hlt x (List.mem_append_left _ hx))) (fun x hx => hsp x (by simp [hx]))
    have k1 : DataW.Trod enc Tryd.prog W' 0 sp true 22 v1 d1 p1 := WideElems.Trod_stays laidOut (by kernel_rfl) (of_decide_eq_true (by kernel_rfl)) h1 (fun x hx => hbl.same (hlt x (List.mem_append_right _ hx))) (fun x hx => hsp x (by simp [hx]))
    exact trodAll_mk2 k0 k1

theorem parts_holds : Rows.LexPartsSaid :=
  OpenClaim.holds_of_wide 7 Tryd.f7 rfl rfl rfl rfl rfl rfl rfl ⟨rfl, rfl, rfl, rfl, rfl⟩ rfl rfl rfl rfl rfl (by kernel_rfl) Tryd.func7 (by kernel_rfl)
    (of_decide_eq_true (by kernel_rfl)) (by unfold Func.isWrapper; first | (rw [if_pos (by decide +kernel)]; kernel_rfl) | (rw [if_neg (by decide +kernel)]; exact ⟨rfl, rfl⟩))
    (fun os started H enc _ => parts_lifted os started H enc)

theorem parts_plain (f : FuncId) (fn : Func) (hf : Tryd.pinned.checked.prog.funcNamed Rows.lexPartsRow.func = some f) (hfn : Tryd.pinned.checked.prog.funcs[f]? = some fn) :
    false = Tryd.pinned.checked.prog.looks [] ∧ ∀ (j : Nat) t, fn.params[j]? = some t → Tryd.pinned.checked.prog.wantsStandIn t = false := by
  obtain rfl : f = 7 := Option.some.inj ((show Tryd.prog.funcNamed Rows.lexPartsRow.func = some 7 by kernel_rfl).symm.trans hf) |>.symm
  obtain rfl : fn = Tryd.f7 := (Option.some.inj (Tryd.func7.symm.trans hfn)).symm
  refine ⟨by kernel_rfl, fun j t ht => ?_⟩
  rw [Tryd.params7] at ht
  have hm : t ∈ [22, 22] := by simpa using Array.mem_of_getElem? ht
  have hall : ([22, 22].all fun u => !Tryd.prog.wantsStandIn u) = true := by kernel_rfl
  exact (show Tryd.prog.wantsStandIn t = false by simpa using List.all_eq_true.1 hall t hm)

/-- LexParts answers true for every input: the tied card. -/
theorem lexParts_card : Rows.LexPartsCardSaid :=
  Claim7.holds_tied_plain_at .later [] _ _ _ _ parts_holds (fun _ h => by cases h) (by kernel_rfl) (fun _ h => by cases h) lexParts_row_tie rfl ⟨rfl, rfl⟩ (by kernel_rfl) rfl parts_plain (by kernel_rfl)
#print axioms lexParts_card
end Go.Proofs.YthnkmebnigefaaaDoor
