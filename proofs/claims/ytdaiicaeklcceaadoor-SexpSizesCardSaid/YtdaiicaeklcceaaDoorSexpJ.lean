/-
  SexpBack answers true on all values. No conditions.
-/
import Derived.Test.YtdaiicaeklcceaaDoorSexpI
set_option linter.unusedSimpArgs false
set_option linter.unnecessarySimpa false
set_option linter.unusedVariables false
set_option linter.constructorNameAsVariable false

/-
 law12: trees that were read are read as they were, when they are written.
-/
namespace Go.Proofs.YtdaiicaeklcceaaDoor
open Go Go.Abs Go.Lex Go.Sexp
set_option maxRecDepth 20000
attribute [local simp] pureS touchV freezeL fuel shiftV
variable {m : Int}
theorem dbl_ge : ∀ l : List UInt8, l.length ≤ (dbl l).length
 | [] => Nat.le_refl _
 | c :: r => by
  have := dbl_ge r
  by_cases h : c = 34
  ·simp only [dbl, h, if_true, List.length_cons]; omega
  ·simp only [dbl, h, if_false, List.length_cons]; omega
theorem rd_txt {w : Lex.Key} (h : RdK w) : w.2.length ≤ (wrW w.1 w.2).length := by
 obtain ⟨h1, h2, c, r, hc, -⟩ := h
 unfold wrW at hc ⊢
 split
 ·rename_i h3
  rw [if_pos h3] at hc
  split
  ·exact Nat.le_refl _
  ·rename_i h4
   rw [if_neg h4] at hc
   unfold quoteS at hc ⊢
   split
   ·simp
   ·rename_i h5
    rw [if_neg h5] at hc
    split
    ·simp; omega
    ·rename_i h6
     rw [if_neg h6] at hc
     cases hc
 ·split
  ·simp
  ·split
   ·have := dbl_ge w.2
    simp; omega
   ·exact Nat.le_refl _
theorem wgt_mem {l : List Lex.Key} {w : Lex.Key} (h : w ∈ l) : wgt w ≤ wgtL l := by
 induction l with
 | nil => cases h
 | cons a l ih =>
  simp only [wgtL]
  rcases List.mem_cons.1 h with rfl | h
  ·omega
  ·have := ih h; omega
theorem allL_get {P : Lex.Key → Prop} {l : List (Tr Wd)} (h : allL P (mapL Lex.key l)) {i : Nat} {t : Tr Wd} (ht : l[i]? = some t) : (t.map Lex.key).all P := allL_mem h (List.mem_of_getElem? ht)
theorem lines_append : ∀ a b : List (Tr Lex.Key), lines (a ++ b) = lines a ++ lines b
 | [], _ => rfl
 | t :: a, b => by simp only [List.cons_append, lines, lines_append a b, List.append_assoc]
theorem lines_next {l : List (Tr Wd)} {i : Nat} {t : Tr Wd} (h : l[i]? = some t) : lines (mapL Lex.key (l.take (i + 1))) = lines (mapL Lex.key (l.take i)) ++ (showT t ++ [10]) := by
 rw [take_next h, mapL_append, lines_append]; rfl
theorem lines_take (l : List (Tr Wd)) (i : Nat) : (lines (mapL Lex.key (l.take i))).length ≤ (lines (mapL Lex.key l)).length := by
 have : lines (mapL Lex.key l) = lines (mapL Lex.key (l.take i)) ++ lines (mapL Lex.key (l.drop i)) := by rw [← lines_append, ← mapL_append, List.take_append_drop]
 rw [this, List.length_append]; omega
theorem back_facts {s : List UInt8} (hs : s.length ≤ 1000) {l : List (Tr Wd)} (h : allO (wdsOf s) = (some l, 0)) :
  (lines (mapL Lex.key l)).length ≤ 2000 ∧ allL shortK (mapL Lex.key l) ∧ sizeL l ≤ 1000 ∧
  ∃ l', (wdsOf (lines (mapL Lex.key l))).length ≤ 1000 ∧ allO (wdsOf (lines (mapL Lex.key l))) = (some l', 0) ∧ mapL Lex.key l' = mapL Lex.key l := by
 have hwl := wds_len (s := s) (by omega)
 cases hx : lexL s.length s with
 | none =>
  rw [wds_none hx] at h
  have h2 : allO ([] : List Wd) = (some [], 0) := rfl
  rw [h2] at h
  cases h
  exact ⟨by simp [mapL, lines], trivial, by simp [sizeL], [], by decide, rfl, rfl⟩
 | some ws =>
  have hw := wds_some (by omega) hx
  rw [hw] at h hwl
  unfold allO at h
  obtain ⟨b1, b2⟩ := back_law hx h
  obtain ⟨g1, g2, g3⟩ := lex_good _ _ s ws (Nat.lt_succ_self _) hx
  have hsz := all_size Wd.kind _ _ _ _ h
  have hk : ∀ w : Wd, Prod.fst (key w) = w.kind := fun _ => rfl
  have m1 := allR_map (k := Wd.kind) (k' := Prod.fst) (f := key) hk 200 (2 * ws.length + 1) (ws.length + 1) ws
  rw [h] at m1
  obtain ⟨f1, f2, f3⟩ := allR_flat (o := kO) (c := kC) (P := shortK) (ws.length + 1) (ws.map key) (mapL key l) 0 (fun w hw => by
   have hm := wgt_mem hw
   obtain ⟨u, hu, rfl⟩ := List.mem_map.1 hw
   obtain ⟨k1, k2, k3⟩ := g1 u hu
   refine ⟨k1, k2, fun n1 n2 => ?_⟩
   have k4 := k3 n1 n2
   have k5 := rd_txt k4
   have k6 : wgt (key u) = (wrW (key u).1 (key u).2).length := by unfold wgt; rw [if_neg (fun e => e.elim n1 n2)]
   unfold shortK; omega) m1
  obtain ⟨ws', c1, c2, l', c3, c4⟩ := b2 (lines (mapL Lex.key l)).length
  have hw' := wds_some (by omega) c1
  rw [hw']
  refine ⟨by omega, f2, by omega, l', by omega, ?_, c4⟩
  unfold allO
  rw [c2]; exact c3
theorem show_is {t : Tr Wd} (h1 : t.size ≤ 1000000) (h2 : (t.map Lex.key).all shortK) (h3 : (showT t).length ≤ 100000) : sShow [encT t] = some (.str (showT t)) := by
 simp only [sShow, decT_enc]
 exact if_pos ⟨h1, h2, h3⟩
noncomputable def Tr_ : Tab := ((((Tab.none.with 8 (pureS sWords)).with 7 (pureS sAwake)).with 12 (pureS sAllT)).with 13 (pureS sShow)).with 11 (pureS sSameT)
theorem Tr_ok : TabOk Tryd.prog (base2 m) Tr_ := Tab.with_ok (Tab.with_ok (Tab.with_ok (Tab.with_ok (Tab.with_ok Tab.none_ok twords_ok) awake_ok) all_ok) show_ok) sameT_ok
theorem Tr_mu (f : FuncId) (a : List AVal) (H : Heap) : Tr_.mu f a H = none := (rfl)
theorem Tr_1 : Tr_.fn 8 = pureS sWords := (rfl)
theorem Tr_2 : Tr_.fn 7 = pureS sAwake := (rfl)
theorem Tr_3 : Tr_.fn 12 = pureS sAllT := (rfl)
theorem Tr_4 : Tr_.fn 13 = pureS sShow := (rfl)
theorem Tr_5 : Tr_.fn 11 = pureS sSameT := (rfl)
attribute [local simp] Tr_mu Tr_1 Tr_2 Tr_3 Tr_4 Tr_5
def sBack : List PVal → Option PVal
 | [.str _] => some (.bool true)
 | _ => none
theorem back_ok : FnOk Tryd.prog (base2 m) 4 (pureS sBack) := by
 refine pure_of_vc hmix Tr_ok globNone low4 fun args x hs hf => ?_
 unfold sBack at hs
 split at hs
 case h_2 => cases hs
 rename_i s
 cases hs
 refine ⟨by simp [lf4], ?_⟩
 by_cases hl : 1000 < s.length
 ·have hl' : (1000 : Int) < s.length := by omega
  simp [lf4, hl', aw_is]
 ·have hl' : ¬ (1000 : Int) < s.length := by omega
  have hwl := wds_len (s := s) (by omega)
  have hal : sAllT [.lst ((wdsOf s).map Wd.v)] = some (.tup [allP' (allO (wdsOf s)).1, .int .i64 (allO (wdsOf s)).2]) := by
   simp only [sAllT, decW_map]
   rw [if_pos (by omega)]
  rcases hO : allO (wdsOf s) with ⟨o, e⟩
  rw [hO] at hal
  cases o with
  | none =>
   have he := allR_none hO
   have he' : ((e : Int) != 0) = true := by simp; exact he
   simp [lf4, hl', words_is, hal, allP', he', aw_is]
  | some l =>
   have he := allR_some hO
   subst he
   obtain ⟨f1, f2, f3, l', f4, f5, f6⟩ := back_facts (by omega) hO
   have hlz := len_size l
   have hll : l'.length = l.length := by have := congrArg List.length f6; simpa [mapL_eq] using this
   have hal2 : sAllT [.lst ((wdsOf (lines (mapL Lex.key l))).map Wd.v)] = some (.tup [.lst (encL l'), .int .i64 0]) := by
    simp only [sAllT, decW_map]
    rw [if_pos (by omega), f5]; rfl
   have hwd2 := words_is (lines (mapL Lex.key l))
   have ht3 : ∀ {i : Nat} {t : Tr Wd}, l[i]? = some t → (showT t).length ≤ 2000 := fun {i t} hti => by
    have h1 := lines_next hti
    have h2 := lines_take l (i + 1)
    rw [h1] at h2
    simp only [List.length_append] at h2
    omega
   have hsh : ∀ {i : Nat} {t : Tr Wd}, l[i]? = some t → sShow [encT t] = some (.str (showT t)) := fun {i t} hti => by
    have h1 := size_mem (List.mem_of_getElem? hti)
    have := ht3 hti
    exact show_is (by omega) (allL_get f2 hti) (by omega)
   simp [lf4, hl', words_is, hal, allP']
   simp only [lf4_B0, vc_block]
   refine loop_ind (fun fr H => ∃ i : Nat, i ≤ l.length ∧ fr 3 = .p (.lst (encL l)) ∧ fr 6 = .p (.int .i64 (i : Int)) ∧ fr 5 = .p (.str (lines (mapL Lex.key (l.take i)))))
    (fun fr _ => l.length - ivar (fr 6)) ⟨0, by simp, by simp, by simp, by simp [mapL, lines]⟩ ?_
   rintro fr H ⟨i, hi, e3, e6, e5⟩
   by_cases hlt : i < l.length
   ·obtain ⟨t, hti⟩ : ∃ t, l[i]? = some t := ⟨_, List.getElem?_eq_getElem hlt⟩
    have hg := encL_get hti
    have hst := hsh hti
    have htl := ht3 hti
    have hln := lines_next hti
    have hl1 := lines_take l i
    obtain ⟨ub, uk, us, ua, uvs, uen⟩ := encT_shape t
    rw [uen] at hg hst
    obtain ⟨_, hg'⟩ := List.getElem?_eq_some_iff.1 hg
    have hb1 : (lines (mapL Lex.key (l.take i))).length + (showT t).length ≤ maxLen := by unfold maxLen; omega
    have hb2 : (lines (mapL Lex.key (l.take i))).length + (showT t).length + 1 ≤ maxLen := by unfold maxLen; omega
    simp [e3, e6, e5, encL_len, hlt, hg', hst, binS, hb1, hb2, ← hln, wrap_succ (i := i) (by omega)]
    exact ⟨⟨i + 1, by omega, by simp, rfl⟩, by simp only [ivar]; omega⟩
   ·have hil : i = l.length := by omega
    subst hil
    rw [List.take_length] at e5
    simp [e3, e6, e5, encL_len, hwd2, hal2, hll]
    simp only [lf4_B1, vc_block]
    refine loop_ind (fun fr H => ∃ j : Nat, j ≤ l.length ∧ fr 3 = .p (.lst (encL l)) ∧ fr 7 = .p (.lst (encL l')) ∧ fr 9 = .p (.int .i64 (j : Int)))
     (fun fr _ => l.length - ivar (fr 9)) ⟨0, by simp, by simp [e3], by simp, by simp⟩ ?_
    rintro fr H ⟨j, hj, e3, e7, e9⟩
    by_cases hjt : j < l.length
    ·obtain ⟨t, hti⟩ : ∃ t, l[j]? = some t := ⟨_, List.getElem?_eq_getElem hjt⟩
     obtain ⟨u, huj⟩ : ∃ u, l'[j]? = some u := ⟨_, List.getElem?_eq_getElem (by omega)⟩
     have hk : u.map Lex.key = t.map Lex.key := by
      have h1 := congrArg (·[j]?) f6
      simpa [mapL_eq, hti, huj] using h1
     have hg := encL_get hti
     have hgu := encL_get huj
     have hst := hsh hti
     have htz := size_mem (List.mem_of_getElem? hti)
     have hsu : sShow [encT u] = some (.str (showT t)) := by
      have e : showT u = showT t := by unfold showT; rw [hk]
      rw [← e]
      refine show_is ?_ ?_ ?_
      ·rw [← size_map Lex.key, hk, size_map]; omega
      ·rw [hk]; exact allL_get f2 hti
      ·rw [e]; have := ht3 hti; omega
     have hsm : sSameT [encT t, encT u] = some (.bool true) := by
      simp only [sSameT, decT_enc]
      exact if_pos ⟨by omega, hk.symm⟩
     obtain ⟨tb, tk, ts, ta, tvs, ten⟩ := encT_shape t
     obtain ⟨ub, uk, us, ua, uvs, uen⟩ := encT_shape u
     rw [ten] at hg hst hsm
     rw [uen] at hgu hsu hsm
     obtain ⟨_, hg'⟩ := List.getElem?_eq_some_iff.1 hg
     obtain ⟨_, hgu'⟩ := List.getElem?_eq_some_iff.1 hgu
     simp [e3, e7, e9, encL_len, hjt, hll, hg', hgu', hst, hsu, hsm, binS, wrap_succ (i := j) (by omega)]
     exact ⟨⟨j + 1, by omega, by simp⟩, by simp only [ivar]; omega⟩
    ·have hje : j = l.length := by omega
     subst hje
     simp [e3, e7, e9, encL_len, aw_is]
end Go.Proofs.YtdaiicaeklcceaaDoor
