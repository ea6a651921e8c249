/-
  LexTexts returns true for every input: the tied card of the row. No conditions beyond the row's own.
-/
import Derived.Test.YthnkmebnigefaaaDoorLexG
import Derived.Test.YthnkmebnigefaaaDoorLexF
import Derived.Test.YthnkmebnigefaaaDoorLexH
set_option linter.unusedSimpArgs false
set_option linter.unusedVariables false
set_option linter.constructorNameAsVariable false

/-
  lex: LexTexts.
-/
namespace Go.Proofs.YthnkmebnigefaaaDoor
open Go Go.Abs
set_option maxRecDepth 20000
attribute [local irreducible] vc
attribute [local simp] pureS touchV freezeL fuel shiftV

/-! ### What a text in quotes is read as -/

def dbl : List UInt8 → List UInt8
  | [] => []
  | c :: r => if c = 34 then 34 :: 34 :: dbl r else c :: dbl r

theorem dbl_append (a b : List UInt8) : dbl (a ++ b) = dbl a ++ dbl b := by
  induction a with
  | nil => rfl
  | cons c a ih =>
    simp only [List.cons_append, dbl, ih]
    split <;> rfl

theorem dbl_len : ∀ l : List UInt8, (dbl l).length ≤ 2 * l.length
  | [] => by simp [dbl]
  | c :: r => by
    have := dbl_len r
    simp only [dbl]
    split <;> simp <;> omega

theorem inner34 : isInner 34 = true := by decide

theorem textS_char {c : UInt8} (h1 : c ≠ 34) (h2 : isInner c = true) (l : List UInt8) : textS (c :: l) = ((textS l).1.map (c :: ·), (textS l).2) := by
  refine textS_in ?_ l
  unfold isInText
  rw [u8_bne34, h2]
  simpa using h1

theorem textS_bad {c : UInt8} (h1 : c ≠ 34) (h2 : isInner c = false) (l : List UInt8) : (textS (c :: l)).1 = none := by
  cases l with
  | nil => simp [textS, h1, h2]
  | cons d r => simp [textS, h1, h2]

theorem textS_dbl : ∀ (s l : List UInt8), s.all isInner = true → textS (dbl s ++ l) = ((textS l).1.map (s ++ ·), (textS l).2)
  | [], l, _ => by simp [dbl]
  | c :: s, l, h => by
    simp only [List.all_cons, Bool.and_eq_true] at h
    have ih := textS_dbl s l h.2
    simp only [dbl]
    by_cases hc : c = 34
    · subst hc
      rw [if_pos rfl]
      simp only [List.cons_append, textS, if_true, ih]
      simp only [Option.map_map]
      rfl
    · rw [if_neg hc]
      rw [List.cons_append, textS_char hc h.1, ih]
      simp only [Option.map_map]
      rfl

theorem textS_dbl_bad : ∀ (s l : List UInt8), s.all isInner = false → (textS (dbl s ++ l)).1 = none
  | [], l, h => by simp at h
  | c :: s, l, h => by
    simp only [List.all_cons, Bool.and_eq_false_iff] at h
    simp only [dbl]
    by_cases hc : c = 34
    · subst hc
      have h2 : s.all isInner = false := by
        rcases h with h | h
        · rw [inner34] at h; cases h
        · exact h
      have ih := textS_dbl_bad s l h2
      rw [if_pos rfl]
      simp only [List.cons_append, textS, if_true, ih, Option.map_none]
    · rw [if_neg hc, List.cons_append]
      cases hi : isInner c with
      | false => exact textS_bad hc hi _
      | true =>
        have h2 : s.all isInner = false := by
          rcases h with h | h
          · rw [hi] at h; cases h
          · exact h
        rw [textS_char hc hi, textS_dbl_bad s l h2]
        rfl

theorem all_text {t : List UInt8} (hl : t.length ≤ 1000) : allS (34 :: t) = match textS t with
    | (some x, q) => (match lexL (t.length + 1) q with | some ws => (⟨7, x, 0⟩ :: ws, 0) | none => ([], 2))
    | (none, _) => ([], 2) := by
  unfold allS
  rw [if_neg (by simp; omega), lexL_eq, skip_word (by decide) (by decide)]
  have hw : wordS (34 :: t) = texS (34 :: t) := by simp [wordS]
  simp only [hw, texS, List.drop_succ_cons, List.drop_zero, List.length_cons]
  cases h : textS t with
  | mk o q =>
    cases o with
    | none => rfl
    | some x =>
      simp only [ansK, wordV]
      cases lexL (t.length + 1) q with
      | none => rfl
      | some ws => simp

theorem all_good (s : List UInt8) (hs : s.length ≤ 100) (h : s.all isInner = true) : allS (34 :: (dbl s ++ [34])) = ([⟨7, s, 0⟩], 0) := by
  have := dbl_len s
  rw [all_text (by simp; omega), textS_dbl s [34] h]
  simp only [textS, if_true, Option.map_some, List.append_nil]
  rfl

theorem all_open (s : List UInt8) (hs : s.length ≤ 100) : allS (34 :: dbl s) = ([], 2) := by
  have := dbl_len s
  have e : (textS (dbl s)).1 = none := by
    cases h : s.all isInner with
    | true =>
      have := textS_dbl s [] h
      rw [List.append_nil] at this
      rw [this]
      rfl
    | false =>
      have := textS_dbl_bad s [] h
      rwa [List.append_nil] at this
  rw [all_text (by omega)]
  cases h : textS (dbl s) with
  | mk o q =>
    rw [h] at e
    simp only at e
    subst e
    rfl

theorem all_bad (s : List UInt8) (hs : s.length ≤ 100) (h : s.all isInner = false) : allS (34 :: (dbl s ++ [34])) = ([], 2) := by
  have := dbl_len s
  have e := textS_dbl_bad s [34] h
  rw [all_text (by simp; omega)]
  cases h : textS (dbl s ++ [34]) with
  | mk o q =>
    rw [h] at e
    simp only at e
    subst e
    rfl

theorem inner_eq (c : UInt8) : isInner c = ((((decide ((32 : Int) ≤ c.toNat)) && ((c.toNat : Int) != 127)) || ((c.toNat : Int) == 9)) || ((c.toNat : Int) == 10) || ((c.toNat : Int) == 13)) := by
  have e : ∀ m : UInt8, ((c.toNat : Int) == (m.toNat : Int)) = (c == m) := fun m => u8_beq c m
  have e9 := e 9; have e10 := e 10; have e13 := e 13; have e32 := e 32
  rw [show (((9 : UInt8).toNat : Nat) : Int) = 9 from rfl] at e9
  rw [show (((10 : UInt8).toNat : Nat) : Int) = 10 from rfl] at e10
  rw [show (((13 : UInt8).toNat : Nat) : Int) = 13 from rfl] at e13
  rw [show (((32 : UInt8).toNat : Nat) : Int) = 32 from rfl] at e32
  unfold isInner isBlank
  simp only [List.contains_cons, List.contains_nil, Bool.or_false]
  rw [← e9, ← e10, ← e13, ← e32]
  rw [Bool.eq_iff_iff]
  simp
  omega
end Go.Proofs.YthnkmebnigefaaaDoor

/-
  lex: LexTexts.
-/
namespace Go.Proofs.YthnkmebnigefaaaDoor
open Go Go.Abs
set_option maxRecDepth 20000
attribute [local irreducible] vc
attribute [local simp] pureS touchV freezeL fuel shiftV

def sTexts : List PVal → Option PVal
  | [.lst es, .bool _] => match decB es with | some _ => some (.bool true) | none => none
  | _ => none

theorem one_part (bs : List UInt8) {i : Nat} {c : UInt8} (h : bs[i]? = some c) : List.drop i (List.take (i + 1) (bs.map b8)) = [b8 c] := by
  have hi : i < bs.length := (List.getElem?_eq_some_iff.1 h).1
  rw [← List.map_take, ← List.map_drop, List.take_add_one, h, List.drop_append_of_le_length (by simp; omega)]
  simp [List.drop_eq_nil_of_le]

theorem binS_add {a b : List UInt8} (h : a.length + b.length ≤ 1000000) : binS .add a b = some (.str (a ++ b)) := by
  have : a.length + b.length ≤ maxLen := Nat.le_trans h (by decide)
  simp [binS, this]

theorem texts_ok : FnOk Tryd.prog base1 6 (pureS sTexts) := by
  refine pure_of_vc hmix Tl_ok globNone low6 fun args z hs hf => ?_
  unfold sTexts at hs
  split at hs
  case h_2 => cases hs
  rename_i es op
  cases hd : decB es with
  | none => rw [hd] at hs; cases hs
  | some bs =>
    rw [hd] at hs
    cases hs
    have := decB_some hd
    subst this
    refine ⟨by simp [lf6], ?_⟩
    by_cases hb : (100 : Int) < bs.length
    · simp [lf6, hb, Tl_mu, Tl_8, sAwake_nil]
    have hbn : bs.length ≤ 100 := by omega
    have hall : ∀ t : List UInt8, sAll [.lst (t.map b8)] = some (.tup [.lst ((allS t).1.map Wd.v), .int .i64 (allS t).2]) := fun t => by simp only [sAll, decB_map]
    simp [lf6, hb]
    simp only [lf6_B0, vc_block]
    refine loop_ind (fun fr H => ∃ i : Nat, H = [] ∧ i ≤ bs.length ∧ fr 0 = .p (.lst (bs.map b8)) ∧ fr 1 = .p (.bool op) ∧ fr 5 = .p (.str (34 :: dbl (bs.take i))) ∧ fr 6 = .p (.bool (!op && (bs.take i).all isInner)) ∧ fr 7 = .p (.int .i64 i)) (fun fr _ => bs.length - ivar (fr 7)) ⟨0, rfl, by omega, by simp, by simp, by simp [dbl], by simp, by simp⟩ ?_
    rintro fr H ⟨i, rfl, hi, h0, h1, h5, h6, h7⟩
    have hdl := dbl_len (bs.take i)
    rw [List.length_take] at hdl
    by_cases h : i < bs.length
    · obtain ⟨c, hx⟩ : ∃ u, bs[i]? = some u := ⟨_, List.getElem?_eq_getElem h⟩
      have hnx := getE hx
      have hop := one_part bs hx
      have ht : bs.take (i + 1) = bs.take i ++ [c] := by rw [List.take_add_one, hx]; rfl
      have hd1 : dbl (bs.take (i + 1)) = dbl (bs.take i) ++ dbl [c] := by rw [ht, dbl_append]
      have ha1 : (bs.take (i + 1)).all isInner = ((bs.take i).all isInner && isInner c) := by rw [ht]; simp
      have hinn := inner_eq c
      have hby : bytesOf [.p (b8 c)] = some [c] := bytesOf_map2 [c]
      obtain ⟨g, hg⟩ : ∃ g, (!op && (bs.take i).all isInner) = g := ⟨_, rfl⟩
      rw [hg] at h6
      have hg1 : (!op && (bs.take (i + 1)).all isInner) = (g && isInner c) := by rw [ha1, ← Bool.and_assoc, hg]
      have hI0 : (i : Int) ≤ i + 1 := by omega
      have hI1 : (i : Int) + 1 ≤ bs.length := by omega
      have hA : ∀ x, binS .add (34 :: dbl (bs.take i)) [x] = some (.str (34 :: (dbl (bs.take i) ++ [x]))) := fun x => binS_add (by simp; omega)
      have hC : ∀ x y, binS .add (34 :: (dbl (bs.take i) ++ [x])) [y] = some (.str (34 :: (dbl (bs.take i) ++ [x, y]))) := fun x y => by
        rw [binS_add (by simp; omega)]
        simp
      by_cases h34 : c = 34
      · subst h34
        have hg2 := hg1
        rw [inner34] at hg2
        have hby : bytesOf [.p (.int .u8 34)] = some [34] := hby
        cases g with
        | false =>
          simp [h0, h1, h5, h6, h7, h, hnx, hop, hby, hI0, hI1, hA, hC, sizeOk_map, b8, wrap_succ (i := i) (by omega), ivar]
          exact ⟨⟨i + 1, by omega, by simp [hd1, dbl], by simpa using hg2, by simp⟩, by omega⟩
        | true =>
          simp [h0, h1, h5, h6, h7, h, hnx, hop, hby, hI0, hI1, hA, hC, sizeOk_map, b8, wrap_succ (i := i) (by omega), ivar]
          exact ⟨⟨i + 1, by omega, by simp [hd1, dbl], by simpa using hg2, by simp⟩, by omega⟩
      · have h34b : ((c.toNat : Int) == 34) = false := by
          have := u8_beq c 34
          rw [show (((34 : UInt8).toNat : Nat) : Int) = 34 from rfl] at this
          rw [this]
          simpa using h34
        have hdc : dbl [c] = [c] := by simp [dbl, h34]
        rw [hdc] at hd1
        cases g with
        | false =>
          simp [h0, h1, h5, h6, h7, h, hnx, hop, hby, hI0, hI1, hA, hC, sizeOk_map, h34b, b8, wrap_succ (i := i) (by omega), ivar]
          exact ⟨⟨i + 1, by omega, by simp [hd1], by simpa using hg1, by simp⟩, by omega⟩
        | true =>
          rw [hinn] at hg1
          clear hinn ha1
          cases e1 : decide ((32 : Int) ≤ c.toNat) <;> cases e2 : ((c.toNat : Int) != 127) <;> cases e3 : ((c.toNat : Int) == 9) <;> cases e4 : ((c.toNat : Int) == 10) <;> cases e5 : ((c.toNat : Int) == 13) <;> rw [e1, e2, e3, e4, e5] at hg1 <;>
          · simp [h0, h1, h5, h6, h7, h, hnx, hop, hby, hI0, hI1, hA, hC, sizeOk_map, h34b, e1, e2, e3, e4, e5, b8, wrap_succ (i := i) (by omega), ivar]
            exact ⟨⟨i + 1, by omega, by simp [hd1], by simpa using hg1, by simp⟩, by omega⟩
    · have hil : i = bs.length := by omega
      subst hil
      rw [List.take_length] at h5 h6 hdl
      have hA : ∀ x, binS .add (34 :: dbl bs) [x] = some (.str (34 :: (dbl bs ++ [x]))) := fun x => binS_add (by simp; omega)
      have hby : bytesOf (bs.map (AVal.p ∘ b8)) = some bs := bytesOf_map2 _
      cases op with
      | true =>
        have ha := hall (34 :: dbl bs)
        rw [all_open bs hbn] at ha
        have ha' : sAll [.lst (.int .u8 34 :: List.map (fun b : UInt8 => PVal.int .u8 b.toNat) (dbl bs))] = some (.tup [.lst [], .int .i64 2]) := ha
        simp [h0, h1, h5, h6, h7, Tl_mu, Tl_8, Tl_9, sAwake_nil, ha']
      | false =>
        cases hi' : bs.all isInner with
        | true =>
          have ha := hall (34 :: (dbl bs ++ [34]))
          rw [all_good bs hbn hi', List.map_cons, List.map_append] at ha
          have ha' : sAll [.lst (.int .u8 34 :: (List.map (fun b : UInt8 => PVal.int .u8 b.toNat) (dbl bs) ++ [.int .u8 34]))] = some (.tup [.lst [wordV 7 bs 0], .int .i64 0]) := ha
          rw [hi'] at h6
          simp [h0, h1, h5, h6, h7, Tl_mu, Tl_8, Tl_9, sAwake_nil, hA, ha', hby, wordV, eqCells, eqCell]
        | false =>
          have ha := hall (34 :: (dbl bs ++ [34]))
          rw [all_bad bs hbn hi', List.map_cons, List.map_append] at ha
          have ha' : sAll [.lst (.int .u8 34 :: (List.map (fun b : UInt8 => PVal.int .u8 b.toNat) (dbl bs) ++ [.int .u8 34]))] = some (.tup [.lst [], .int .i64 2]) := ha
          rw [hi'] at h6
          simp [h0, h1, h5, h6, h7, Tl_mu, Tl_8, Tl_9, sAwake_nil, hA, ha']
end Go.Proofs.YthnkmebnigefaaaDoor

/-
  lex: LexTexts' row and card.
-/
namespace Go.Proofs.YthnkmebnigefaaaDoor
open Go Go.Abs Go.ChangeShapes Go.WideShapes Go.ChangeAt Go.WideMaps Go.WideElems Go.RowKit

set_option maxRecDepth 100000 in
theorem texts_lifted (os : Os) (started : os.Started) (H : Type) (enc : TypeId × Value → H) :
    ReturnsInHanded {} Tryd.checked os 6 .any (fun w args => (Rows.lexTextsSpec.pre enc Tryd.prog Tryd.f6 [] false w args ∧ laidMetH Tryd.prog rowLaid w) ∧ sizedMet enc Tryd.prog Tryd.f6 (OpenSpec.ofChange Rows.lexTextsSpec) false w args)
      (Rows.lexTextsSpec.post enc Tryd.prog Tryd.f6 false true false false) := by
  refine returnsInHanded_of_change_and (C := Tryd.checked) (X := fun w _ => laidMetH Tryd.prog rowLaid w) (fun _ _ _ hh h => h.of_heap hh) own started (by kernel_rfl) Tryd.func6
    (ChangeSpec.witness_shaped (enc := enc) (C := Tryd.checked) (os := os) (X := fun w _ => laidMetH Tryd.prog rowLaid w) false (World.doorLaid Tryd.prog 400 os) #[.slice none 0 0, .bool false] 8 rfl (World.shaped_of_RefB (by kernel_rfl) (by kernel_rfl)) (by kernel_rfl) (by kernel_rfl) (by kernel_rfl) (door_met os _)) ?_
  intro W base args ds gs before hval0 hW _ _ hL _
  have hval : ∀ (j : Nat) t v, Tryd.f6.params[j]? = some t → args[j]? = some v → Value.okWide Tryd.prog W .any base t v := hval0
  have hW' := hW
  obtain ⟨p, q, hA0, hV, rfl, hfz, hnd⟩ := hW
  have hA : DataW.TrodAll enc Tryd.prog W 0 (fun _ => true) true Tryd.f6.params.toList args.toList ds p := hA0
  rw [Tryd.params6] at hA hval
  obtain ⟨v0, vs0, d0, ds0, p0, q0, hargs, rfl, rfl, h0, r0⟩ := trodAll_cons hA
  obtain ⟨v1, vs1, d1, ds1, p1, q1, rfl, rfl, rfl, h1, r1⟩ := trodAll_cons r0
  obtain ⟨rfl, rfl, rfl⟩ := trodAll_nil r1
  obtain rfl : args = #[v0, v1] := by cases args; simp_all
  obtain ⟨rfl, rfl⟩ := trodVars_none hV
  obtain ⟨bs, hp0⟩ := prep_bytes Tryd.underlying22 Tryd.underlying5 cells5 (hval 0 22 v0 rfl rfl) h0
  obtain ⟨s, hp1⟩ : ∃ s : Bool, PRep (allCells W) (.bool s) v1 := by
    obtain ⟨s, rfl, _, _⟩ := open_bool Tryd.underlying4 (hval 1 4 v1 rfl rfl) h1
    exact ⟨s, .bool _⟩
  have hcall := law_of_fn texts_ok (of_laid hL) (ps := [.lst (bs.map b8), .bool s]) (vs := [v0, v1]) rfl (fun j x v hx hv => by
    match j, hx, hv with
    | 0, hx, hv => cases hx; cases hv; exact hp0
    | 1, hx, hv => cases hx; cases hv; exact hp1) (by simp only [sTexts, decB_map])
  clear hA0 hval0
  simp only [List.append_nil] at hW'
  refine hcall.mono fun e W' ⟨he, hbl⟩ => ?_
  subst he
  have hlt : ∀ x ∈ p0 ++ p1, x.block < W.heap.size := fun x hx => by simpa using hW'.lt x hx
  refine ⟨_, rfl, post_below (pa := p0 ++ p1) (pv := []) hW' (fun _ _ _ => ?_) (fun sp hsp => ?_) (fun _ _ => rfl) (by simp) hbl (ok_one (by kernel_rfl) rfl (okWide_bool_mk Tryd.underlying4 _))⟩
  · exact trodAll_mk1 (shut_bool Tryd.underlying4 _)
  · have k0 : DataW.Trod enc Tryd.prog W' 0 sp true 22 v0 d0 p0 := WideElems.Trod_stays laidOut (by kernel_rfl) (of_decide_eq_true (by kernel_rfl)) h0 (fun x hx => hbl.same (hlt x (List.mem_append_left _ hx))) (fun x hx => hsp x (by simp [hx]))
    have k1 : DataW.Trod enc Tryd.prog W' 0 sp true 4 v1 d1 p1 := WideElems.Trod_stays laidOut (by kernel_rfl) (of_decide_eq_true (by kernel_rfl)) h1 (fun x hx => hbl.same (hlt x (List.mem_append_right _ hx))) (fun x hx => hsp x (by simp [hx]))
    exact trodAll_mk2 k0 k1

theorem texts_holds : Rows.LexTextsSaid :=
  OpenClaim.holds_of_wide 6 Tryd.f6 rfl rfl rfl rfl rfl rfl rfl ⟨rfl, rfl, rfl, rfl, rfl⟩ rfl rfl rfl rfl rfl (by kernel_rfl) Tryd.func6 (by kernel_rfl)
    (of_decide_eq_true (by kernel_rfl)) (by unfold Func.isWrapper; first | (rw [if_pos (by decide +kernel)]; kernel_rfl) | (rw [if_neg (by decide +kernel)]; exact ⟨rfl, rfl⟩))
    (fun os started H enc _ => texts_lifted os started H enc)

theorem texts_plain (f : FuncId) (fn : Func) (hf : Tryd.pinned.checked.prog.funcNamed Rows.lexTextsRow.func = some f) (hfn : Tryd.pinned.checked.prog.funcs[f]? = some fn) :
    false = Tryd.pinned.checked.prog.looks [] ∧ ∀ (j : Nat) t, fn.params[j]? = some t → Tryd.pinned.checked.prog.wantsStandIn t = false := by
  obtain rfl : f = 6 := Option.some.inj ((show Tryd.prog.funcNamed Rows.lexTextsRow.func = some 6 by kernel_rfl).symm.trans hf) |>.symm
  obtain rfl : fn = Tryd.f6 := (Option.some.inj (Tryd.func6.symm.trans hfn)).symm
  refine ⟨by kernel_rfl, fun j t ht => ?_⟩
  rw [Tryd.params6] at ht
  have hm : t ∈ [22, 4] := by simpa using Array.mem_of_getElem? ht
  have hall : ([22, 4].all fun u => !Tryd.prog.wantsStandIn u) = true := by kernel_rfl
  exact (show Tryd.prog.wantsStandIn t = false by simpa using List.all_eq_true.1 hall t hm)

/-- LexTexts answers true for every input: the tied card. -/
theorem lexTexts_card : Rows.LexTextsCardSaid :=
  Claim7.holds_tied_plain_at .later [] _ _ _ _ texts_holds (fun _ h => by cases h) (by kernel_rfl) (fun _ h => by cases h) lexTexts_row_tie rfl ⟨rfl, rfl⟩ (by kernel_rfl) rfl texts_plain (by kernel_rfl)
#print axioms lexTexts_card
end Go.Proofs.YthnkmebnigefaaaDoor
