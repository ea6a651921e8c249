/-
  LexPlaces returns true for every input: the tied card of the row. No conditions beyond the row's own.
-/
import Derived.Test.YthnkmebnigefaaaDoorLexI
import Derived.Test.YthnkmebnigefaaaDoorLexH
set_option linter.unusedSimpArgs false
set_option linter.unusedVariables false
set_option linter.constructorNameAsVariable false

/-
  lex: LexPlaces.
-/
namespace Go.Proofs.YthnkmebnigefaaaDoor
open Go Go.Abs
set_option maxRecDepth 20000
attribute [local irreducible] vc
attribute [local simp] pureS touchV freezeL fuel shiftV

def sPlaces : List PVal → Option PVal
  | [.lst es, .int .i64 _] => match decB es with | some _ => some (.bool true) | none => none
  | _ => none

def Tp : Tab := Tl.with 16 (pureS sRound)
theorem Tp_ok : TabOk Tryd.prog base1 Tp := Tab.with_ok Tl_ok round_ok
theorem Tp_mu (f : FuncId) (a : List AVal) (H : Heap) : Tp.mu f a H = none := (rfl)
theorem Tp_8 : Tp.fn 8 = pureS sAwake := (rfl)
theorem Tp_9 : Tp.fn 9 = pureS sAll := (rfl)
theorem Tp_16 : Tp.fn 16 = pureS sRound := (rfl)

theorem places_one {ws : List Wd} {Q : LExit → AFr → Heap → Prop} {fr : AFr} {bs : List UInt8} {k : Int} (hb : bs.length ≤ 600) (hw : lexL bs.length bs = some ws)
    (h0 : fr 0 = .p (.lst (bs.map b8))) (h1 : fr 1 = .p (.int .i64 k)) (h5 : fr 5 = .p (.lst (ws.map Wd.v))) (h7 : fr 7 = .p (.int .i64 0))
    (hq : ∀ fr', fr' 0 = .p (.lst (bs.map b8)) → fr' 1 = .p (.int .i64 k) → fr' 5 = .p (.lst (ws.map Wd.v)) → Q .normal fr' []) : vc Tp lf5_B0 Q fr [] := by
  have hwl := places_len hw
  obtain ⟨_, p2, p3⟩ := lexL_places (bs.length + 1) bs ws (Nat.lt_succ_self _) (List.suffix_refl _) hw
  simp only [lf5_B0, vc_block]
  refine loop_ind (fun fr H => ∃ i : Nat, H = [] ∧ i ≤ ws.length ∧ fr 0 = .p (.lst (bs.map b8)) ∧ fr 1 = .p (.int .i64 k) ∧ fr 5 = .p (.lst (ws.map Wd.v)) ∧ fr 7 = .p (.int .i64 i)) (fun fr _ => ws.length - ivar (fr 7)) ⟨0, rfl, by omega, h0, h1, h5, h7⟩ ?_
  rintro fr H ⟨i, rfl, hi, h0, h1, h5, h7⟩
  by_cases h : i < ws.length
  · obtain ⟨w, hx⟩ : ∃ u, ws[i]? = some u := ⟨_, List.getElem?_eq_getElem h⟩
    have hlt := (p2 i w hx).1
    obtain ⟨k1, t1, a1⟩ := w
    simp only at hlt
    have hnx := getE hx
    have n1 : ¬ (a1 : Int) < 0 := by omega
    have n2 : ¬ (bs.length : Int) ≤ a1 := by omega
    have n3 : ¬ bs.length ≤ a1 := by omega
    by_cases hi0 : i = 0
    · subst hi0
      have hw1 : IntKind.i64.wrap 1 = ((1 : Nat) : Int) := by decide
      simp [h0, h1, h5, h7, h, hnx, n1, n2, n3, Wd.v, wordV, ivar]
      rw [hw1]
      exact ⟨⟨1, by omega, rfl⟩, by simp; omega⟩
    · have hj : i - 1 < ws.length := by omega
      obtain ⟨v, hy⟩ : ∃ u, ws[i - 1]? = some u := ⟨_, List.getElem?_eq_getElem hj⟩
      have hlt2 := p3 (i - 1) v ⟨k1, t1, a1⟩ hy (by rw [Nat.sub_add_cancel (by omega)]; exact hx)
      obtain ⟨k2, t2, a2⟩ := v
      simp only at hlt2
      have hny := getE hy
      have n4 : ¬ (a1 : Int) ≤ a2 := by omega
      have n5 : ¬ a1 ≤ a2 := by omega
      have hwj : IntKind.i64.wrap ((i : Int) - 1) = ((i - 1 : Nat) : Int) := by
        rw [IntWalk.i64_in _ (by omega)]; omega
      have n6 : (0 : Int) < (i : Int) := by omega
      have n7 : 0 < i := by omega
      simp [h0, h1, h5, h7, h, hnx, hny, hj, hwj, n1, n2, n3, n4, n5, n6, n7, Wd.v, wordV, ivar, wrap_succ (i := i) (by omega)]
      exact ⟨⟨i + 1, by omega, rfl⟩, by omega⟩
  · have hil : i = ws.length := by omega
    subst hil
    simp [h0, h1, h5, h7]
    exact hq _ (by simp [h0]) (by simp [h1]) (by simp [h5])

theorem places_two {ws ms : List Wd} {Q : LExit → AFr → Heap → Prop} {fr : AFr} {i a : Nat} {wi : Wd} (hwl : ws.length ≤ 600) (hi : ws[i]? = some wi) (ha : wi.at_ = a) (hml : ms.length + i = ws.length)
    (hrel : ∀ j u, ms[j]? = some u → ∃ v, ws[i + j]? = some v ∧ u = shW a v ∧ a ≤ v.at_ ∧ v.at_ ≤ 600)
    (h5 : fr 5 = .p (.lst (ws.map Wd.v))) (h8 : fr 8 = .p (.int .i64 i)) (h9 : fr 9 = .p (.lst (ms.map Wd.v))) (h11 : fr 11 = .p (.int .i64 0))
    (hq : ∀ fr', Q .normal fr' []) : vc Tp lf5_B1 Q fr [] := by
  simp only [lf5_B1, vc_block]
  refine loop_ind (fun fr H => ∃ j : Nat, H = [] ∧ j ≤ ms.length ∧ fr 5 = .p (.lst (ws.map Wd.v)) ∧ fr 8 = .p (.int .i64 i) ∧ fr 9 = .p (.lst (ms.map Wd.v)) ∧ fr 11 = .p (.int .i64 j)) (fun fr _ => ms.length - ivar (fr 11)) ⟨0, rfl, by omega, h5, h8, h9, h11⟩ ?_
  rintro fr H ⟨j, rfl, hj, h5, h8, h9, h11⟩
  by_cases h : j < ms.length
  · obtain ⟨u, hu⟩ : ∃ u, ms[j]? = some u := ⟨_, List.getElem?_eq_getElem h⟩
    obtain ⟨v, hv, rfl, hle, hv6⟩ := hrel j u hu
    obtain ⟨k1, t1, a1⟩ := v
    obtain ⟨k2, t2, a2⟩ := wi
    simp only at ha hle hv6
    subst ha
    have hnu := getE hu
    have hnv := getE hv
    have hni := getE hi
    have hil : i < ws.length := (List.getElem?_eq_some_iff.1 hi).1
    have hij : i + j < ws.length := by omega
    have hw1 : IntKind.i64.wrap ((i : Int) + j) = ((i + j : Nat) : Int) := by
      rw [IntWalk.i64_in _ (by omega)]; omega
    have hw2 : IntKind.i64.wrap ((a1 : Int) - a2) = ((a1 - a2 : Nat) : Int) := by
      rw [IntWalk.i64_in _ (by omega)]; omega
    simp [h5, h8, h9, h11, h, hnu, hnv, hni, hil, hij, hw1, hw2, Wd.v, shW, wordV, binS, ivar, wrap_succ (i := j) (by omega), -Int.natCast_add]
    exact ⟨⟨j + 1, by omega, rfl⟩, by omega⟩
  · have hjl : j = ms.length := by omega
    subst hjl
    simp [h9, h11]
    exact hq _

theorem places_ok : FnOk Tryd.prog base1 5 (pureS sPlaces) := by
  refine pure_of_vc hmix Tp_ok globNone low5 fun args z hs hf => ?_
  unfold sPlaces at hs
  split at hs
  case h_2 => cases hs
  rename_i es k
  cases hd : decB es with
  | none => rw [hd] at hs; cases hs
  | some bs =>
    rw [hd] at hs
    cases hs
    have := decB_some hd
    subst this
    refine ⟨by simp [lf5], ?_⟩
    by_cases hb : (600 : Int) < bs.length
    · simp [lf5, hb, Tp_mu, Tp_8, sAwake_nil]
    have hbn : bs.length ≤ 600 := by omega
    have hall : ∀ t : List UInt8, sAll [.lst (t.map b8)] = some (.tup [.lst ((allS t).1.map Wd.v), .int .i64 (allS t).2]) := fun t => by simp only [sAll, decB_map]
    have ha := hall bs
    cases hw : lexL bs.length bs with
    | none =>
      rw [all_none (by omega) hw] at ha
      simp [lf5, hb, Tp_mu, Tp_8, Tp_9, sAwake_nil, ha]
    | some ws =>
      rw [all_some (by omega) hw] at ha
      have hwl := places_len hw
      cases hwe : ws with
      | nil =>
        rw [hwe] at ha
        simp [lf5, hb, Tp_mu, Tp_8, Tp_9, sAwake_nil, ha]
      | cons w0 wr =>
        have hpos : 0 < ws.length := by rw [hwe]; simp
        clear hwe
        have hz : ((ws.length : Int) == 0) = false := beq_false_of_ne (by omega)
        simp [lf5, hb, Tp_mu, Tp_8, Tp_9, sAwake_nil, ha, hz]
        refine places_one (k := k) hbn hw ?_ ?_ ?_ ?_ (fun fr h0 h1 h5 => ?_)
        · simp
        · simp
        · simp
        · simp
        have hr : sRound [.int .i64 k, .int .i64 ws.length] = some (.int .i64 (k % (ws.length : Int))) := by
          simp only [sRound]
          rw [if_pos (by omega)]
        obtain ⟨i, hi⟩ : ∃ i : Nat, k % (ws.length : Int) = i := ⟨(k % (ws.length : Int)).toNat, by rw [Int.toNat_of_nonneg (Int.emod_nonneg _ (by omega))]⟩
        have hil : i < ws.length := by
          have := Int.emod_lt_of_pos k (show (0 : Int) < ws.length by omega)
          omega
        rw [hi] at hr
        obtain ⟨wi, hx⟩ : ∃ u, ws[i]? = some u := ⟨_, List.getElem?_eq_getElem hil⟩
        obtain ⟨_, p2, _⟩ := lexL_places (bs.length + 1) bs ws (Nat.lt_succ_self _) (List.suffix_refl _) hw
        have hlt := (p2 i wi hx).1
        have hfrom := hall (bs.drop wi.at_)
        rw [all_from (by omega) hw hx] at hfrom
        have hrel : ∀ j u, ((ws.drop i).map (shW wi.at_))[j]? = some u → ∃ v, ws[i + j]? = some v ∧ u = shW wi.at_ v ∧ wi.at_ ≤ v.at_ ∧ v.at_ ≤ 600 := fun j u hu => by
          rw [List.getElem?_map, List.getElem?_drop] at hu
          cases hv : ws[i + j]? with
          | none => rw [hv] at hu; cases hu
          | some v =>
            rw [hv] at hu
            cases hu
            refine ⟨v, rfl, rfl, places_le hw j i wi v hx hv, ?_⟩
            have := (p2 (i + j) v hv).1
            omega
        have hml : ((ws.drop i).map (shW wi.at_)).length + i = ws.length := by simp; omega
        generalize (ws.drop i).map (shW wi.at_) = ms at hfrom hrel hml
        rw [List.map_drop] at hfrom
        obtain ⟨k1, t1, a1⟩ := wi
        simp only at hlt hfrom hrel
        have hnx := getE hx
        have hI1 : (a1 : Int) ≤ bs.length := by omega
        have hsub : IntKind.i64.wrap ((ws.length : Int) - i) = (ms.length : Int) := by
          rw [IntWalk.i64_in _ (by omega)]; omega
        have htk : List.take bs.length (bs.map b8) = bs.map b8 := List.take_of_length_le (by simp)
        simp [h0, h1, h5, htk, Tp_mu, Tp_8, Tp_9, Tp_16, hr, hil, hnx, hI1, hfrom, hsub, sizeOk_map, Wd.v, wordV]
        refine places_two (ws := ws) (ms := ms) (i := i) (a := a1) (by omega) hx rfl hml hrel ?_ ?_ ?_ ?_ (fun fr => ?_)
        · simp [h5]
        · simp
        · simp
        · simp
        · simp [Tp_mu, Tp_8, sAwake_nil]
end Go.Proofs.YthnkmebnigefaaaDoor

/-
  lex: LexPlaces' row and card.
-/
namespace Go.Proofs.YthnkmebnigefaaaDoor
open Go Go.Abs Go.ChangeShapes Go.WideShapes Go.ChangeAt Go.WideMaps Go.WideElems Go.RowKit

set_option maxRecDepth 100000 in
theorem places_lifted (os : Os) (started : os.Started) (H : Type) (enc : TypeId × Value → H) :
    ReturnsInHanded {} Tryd.checked os 5 .any (fun w args => (Rows.lexPlacesSpec.pre enc Tryd.prog Tryd.f5 [] false w args ∧ laidMetH Tryd.prog rowLaid w) ∧ sizedMet enc Tryd.prog Tryd.f5 (OpenSpec.ofChange Rows.lexPlacesSpec) false w args)
      (Rows.lexPlacesSpec.post enc Tryd.prog Tryd.f5 false true false false) := by
  refine returnsInHanded_of_change_and (C := Tryd.checked) (X := fun w _ => laidMetH Tryd.prog rowLaid w) (fun _ _ _ hh h => h.of_heap hh) own started (by kernel_rfl) Tryd.func5
    (ChangeSpec.witness_shaped (enc := enc) (C := Tryd.checked) (os := os) (X := fun w _ => laidMetH Tryd.prog rowLaid w) false (World.doorLaid Tryd.prog 400 os) #[.slice none 0 0, .int .i64 0] 8 rfl (World.shaped_of_RefB (by kernel_rfl) (by kernel_rfl)) (by kernel_rfl) (by kernel_rfl) (by kernel_rfl) (door_met os _)) ?_
  intro W base args ds gs before hval0 hW _ _ hL _
  have hval : ∀ (j : Nat) t v, Tryd.f5.params[j]? = some t → args[j]? = some v → Value.okWide Tryd.prog W .any base t v := hval0
  have hW' := hW
  obtain ⟨p, q, hA0, hV, rfl, hfz, hnd⟩ := hW
  have hA : DataW.TrodAll enc Tryd.prog W 0 (fun _ => true) true Tryd.f5.params.toList args.toList ds p := hA0
  rw [Tryd.params5] at hA hval
  obtain ⟨v0, vs0, d0, ds0, p0, q0, hargs, rfl, rfl, h0, r0⟩ := trodAll_cons hA
  obtain ⟨v1, vs1, d1, ds1, p1, q1, rfl, rfl, rfl, h1, r1⟩ := trodAll_cons r0
  obtain ⟨rfl, rfl, rfl⟩ := trodAll_nil r1
  obtain rfl : args = #[v0, v1] := by cases args; simp_all
  obtain ⟨rfl, rfl⟩ := trodVars_none hV
  obtain ⟨x0, hp0⟩ := prep_bytes Tryd.underlying22 Tryd.underlying5 cells5 (hval 0 22 v0 rfl rfl) h0
  obtain ⟨x1, hp1⟩ : ∃ s : Int, PRep (allCells W) (.int .i64 s) v1 := by
    obtain ⟨s, rfl, _, _⟩ := open_int Tryd.underlying3 (hval 1 3 v1 rfl rfl) h1
    exact ⟨s, .int _ _⟩
  have hcall := law_of_fn places_ok (of_laid hL) (ps := [.lst (x0.map b8), .int .i64 x1]) (vs := [v0, v1]) rfl (fun j x v hx hv => by
    match j, hx, hv with
    | 0, hx, hv => cases hx; cases hv; exact hp0
    | 1, hx, hv => cases hx; cases hv; exact hp1) (by simp only [sPlaces, decB_map])
  clear hA0 hval0
  simp only [List.append_nil] at hW'
  refine hcall.mono fun e W' ⟨he, hbl⟩ => ?_
  subst he
  have hlt : ∀ x ∈ p0 ++ p1, x.block < W.heap.size := fun x hx => by simpa using hW'.lt x hx
  refine ⟨_, rfl, post_below (pa := p0 ++ p1) (pv := []) hW' (fun _ _ _ => ?_) (fun sp hsp => ?_) (fun _ _ => rfl) (by simp) hbl (ok_one (by kernel_rfl) rfl (okWide_bool_mk Tryd.underlying4 _))⟩
  · exact trodAll_mk1 (shut_bool Tryd.underlying4 _)
  · have k0 : DataW.Trod enc Tryd.prog W' 0 sp true 22 v0 d0 p0 := WideElems.Trod_stays laidOut (by kernel_rfl) (of_decide_eq_true (by kernel_rfl)) h0 (fun x hx => hbl.same (hlt x (List.mem_append_left _ hx))) (fun x hx => hsp x (by simp [hx]))
    have k1 : DataW.Trod enc Tryd.prog W' 0 sp true 3 v1 d1 p1 := WideElems.Trod_stays laidOut (by kernel_rfl) (of_decide_eq_true (by kernel_rfl)) h1 (fun x hx => hbl.same (hlt x (List.mem_append_right _ hx))) (fun x hx => hsp x (by simp [hx]))
    exact trodAll_mk2 k0 k1

theorem places_holds : Rows.LexPlacesSaid :=
  OpenClaim.holds_of_wide 5 Tryd.f5 rfl rfl rfl rfl rfl rfl rfl ⟨rfl, rfl, rfl, rfl, rfl⟩ rfl rfl rfl rfl rfl (by kernel_rfl) Tryd.func5 (by kernel_rfl)
    (of_decide_eq_true (by kernel_rfl)) (by unfold Func.isWrapper; first | (rw [if_pos (by decide +kernel)]; kernel_rfl) | (rw [if_neg (by decide +kernel)]; exact ⟨rfl, rfl⟩))
    (fun os started H enc _ => places_lifted os started H enc)

theorem places_plain (f : FuncId) (fn : Func) (hf : Tryd.pinned.checked.prog.funcNamed Rows.lexPlacesRow.func = some f) (hfn : Tryd.pinned.checked.prog.funcs[f]? = some fn) :
    false = Tryd.pinned.checked.prog.looks [] ∧ ∀ (j : Nat) t, fn.params[j]? = some t → Tryd.pinned.checked.prog.wantsStandIn t = false := by
  obtain rfl : f = 5 := Option.some.inj ((show Tryd.prog.funcNamed Rows.lexPlacesRow.func = some 5 by kernel_rfl).symm.trans hf) |>.symm
  obtain rfl : fn = Tryd.f5 := (Option.some.inj (Tryd.func5.symm.trans hfn)).symm
  refine ⟨by kernel_rfl, fun j t ht => ?_⟩
  rw [Tryd.params5] at ht
  have hm : t ∈ [22, 3] := by simpa using Array.mem_of_getElem? ht
  have hall : ([22, 3].all fun u => !Tryd.prog.wantsStandIn u) = true := by kernel_rfl
  exact (show Tryd.prog.wantsStandIn t = false by simpa using List.all_eq_true.1 hall t hm)

/-- LexPlaces answers true for every input: the tied card. -/
theorem lexPlaces_card : Rows.LexPlacesCardSaid :=
  Claim7.holds_tied_plain_at .later [] _ _ _ _ places_holds (fun _ h => by cases h) (by kernel_rfl) (fun _ h => by cases h) lexPlaces_row_tie rfl ⟨rfl, rfl⟩ (by kernel_rfl) rfl places_plain (by kernel_rfl)
#print axioms lexPlaces_card
end Go.Proofs.YthnkmebnigefaaaDoor
