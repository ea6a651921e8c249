/-
  SexpSizes answers true on all values. No conditions.
-/
import Derived.Test.YtdaiicaeklcceaaDoorSexpG
set_option linter.unusedSimpArgs false
set_option linter.unnecessarySimpa false
set_option linter.unusedVariables false
set_option linter.constructorNameAsVariable false

/-
 law12: sizes.
-/
namespace Go.Proofs.YtdaiicaeklcceaaDoor
open Go Go.Abs Go.Lex Go.Sexp
set_option maxRecDepth 20000
attribute [local simp] pureS touchV freezeL fuel shiftV
variable {m : Int}
theorem allR_none {n : Nat} : ∀ {f : Nat} {ws : List Wd} {e : Nat}, allR Wd.kind 200 n f ws = (none, e) → e ≠ 0
 | 0, ws, e, h => by cases h; decide
 | f + 1, [], e, h => by cases h
 | f + 1, w :: ws, e, h => by
  unfold allR at h
  split at h
  ·split at h
   ·cases h
   ·rename_i h2
    cases h
    exact allR_none h2
  ·rename_i h1
   cases h
   exact next_none h1
theorem allR_some {n : Nat} : ∀ {f : Nat} {ws : List Wd} {l : List (Tr Wd)} {e : Nat}, allR Wd.kind 200 n f ws = (some l, e) → e = 0
 | 0, ws, l, e, h => by cases h
 | f + 1, [], l, e, h => by cases h; rfl
 | f + 1, w :: ws, l, e, h => by
  unfold allR at h
  split at h
  ·split at h
   ·rename_i h2
    cases h
    exact allR_some h2
   ·cases h
  ·cases h
def kidsOf : Tr Wd → List (Tr Wd)
 | .leaf _ => []
 | .list l => l
def isLst : Tr Wd → Bool
 | .leaf _ => false
 | .list _ => true
theorem enc_kids (t : Tr Wd) : ∃ k s a, encT t = .agg [.bool (isLst t), .int .i64 k, .str s, .int .i64 a, .lst (encL (kidsOf t))] := by
 cases t with
 | leaf w => exact ⟨w.kind, w.text, w.at_, rfl⟩
 | list l => exact ⟨0, [], 0, rfl⟩
theorem size_kids (t : Tr Wd) : t.size = 1 + sizeL (kidsOf t) := by cases t <;> simp [Tr.size, kidsOf, sizeL]
theorem deep_kids (t : Tr Wd) : t.deep = deepL (kidsOf t) + (if isLst t = true then 1 else 0) := by cases t <;> simp [Tr.deep, kidsOf, deepL, isLst]
theorem opens_take {ws : List Wd} {i : Nat} {w : Wd} (h : ws[i]? = some w) : opens Wd.kind (ws.take (i + 1)) = opens Wd.kind (ws.take i) + (if w.kind = 1 then 1 else 0) := by
 induction ws generalizing i with
 | nil => cases h
 | cons a ws ih =>
  cases i with
  | zero => cases h; simp [opens]
  | succ i =>
   simp only [List.getElem?_cons_succ] at h
   simp only [List.take_succ_cons, opens]
   rw [ih h]; omega
theorem opens_le : ∀ ws : List Wd, opens Wd.kind ws ≤ ws.length
 | [] => Nat.le_refl _
 | w :: ws => by
  have := opens_le ws
  simp only [opens, List.length_cons]
  split <;> omega
def Tp : Tab := ((((Tab.none.with 8 (pureS sWords)).with 7 (pureS sAwake)).with 12 (pureS sAllT)).with 15 (pureS sSize)).with 14 (pureS sDeep)
theorem Tp_ok : TabOk Tryd.prog (base2 m) Tp := Tab.with_ok (Tab.with_ok (Tab.with_ok (Tab.with_ok (Tab.with_ok Tab.none_ok twords_ok) awake_ok) all_ok) size_ok) deep_ok
theorem Tp_mu (f : FuncId) (a : List AVal) (H : Heap) : Tp.mu f a H = none := (rfl)
theorem Tp_1 : Tp.fn 8 = pureS sWords := (rfl)
theorem Tp_2 : Tp.fn 7 = pureS sAwake := (rfl)
theorem Tp_3 : Tp.fn 12 = pureS sAllT := (rfl)
theorem Tp_4 : Tp.fn 15 = pureS sSize := (rfl)
theorem Tp_5 : Tp.fn 14 = pureS sDeep := (rfl)
attribute [local simp] Tp_mu Tp_1 Tp_2 Tp_3 Tp_4 Tp_5
def sSizes : List PVal → Option PVal
 | [.str _] => some (.bool true)
 | _ => none
theorem sizes_ok : FnOk Tryd.prog (base2 m) 6 (pureS sSizes) := by
 refine pure_of_vc hmix Tp_ok globNone low6 fun args x hs hf => ?_
 unfold sSizes at hs
 split at hs
 case h_2 => cases hs
 rename_i s
 cases hs
 refine ⟨by simp [lf6], ?_⟩
 by_cases hl : 800 < s.length
 ·have hl' : (800 : Int) < s.length := by omega
  simp [lf6, hl', aw_is]
 ·have hl' : ¬ (800 : Int) < s.length := by omega
  have hwl := wds_len (s := s) (by omega)
  simp [lf6, hl', words_is]
  generalize wdsOf s = ws at hwl
  have hal : sAllT [.lst (ws.map Wd.v)] = some (.tup [allP' (allO ws).1, .int .i64 (allO ws).2]) := by
   simp only [sAllT, decW_map]
   rw [if_pos (by omega)]
  rcases hO : allO ws with ⟨o, e⟩
  rw [hO] at hal
  unfold allO at hO
  cases o with
  | none =>
   have he := allR_none hO
   have he' : ((e : Int) != 0) = true := by simp; exact he
   simp [hal, allP', he', aw_is]
  | some l =>
   have he := allR_some hO
   subst he
   have hsz := all_size Wd.kind _ _ _ _ hO
   have hlz := len_size l
   have hol := opens_le ws
   simp [hal, allP', aw_is]
   simp only [lf6_B1, vc_block]
   refine loop_ind (fun fr H => ∃ i : Nat, i ≤ l.length ∧ fr 3 = .p (.lst (ws.map Wd.v)) ∧ fr 4 = .p (.lst (encL l)) ∧ fr 7 = .p (.int .i64 (i : Int)) ∧ fr 6 = .p (.int .i64 ((sizeL (l.take i) : Nat) : Int)))
    (fun fr _ => l.length - ivar (fr 7)) ⟨0, by simp, by simp, by simp, by simp, by simp [sizeL]⟩ ?_
   rintro fr H ⟨i, hi, h3, h4, h7, h6⟩
   by_cases hlt : i < l.length
   ·obtain ⟨t, hti⟩ : ∃ t, l[i]? = some t := ⟨_, List.getElem?_eq_getElem hlt⟩
    have hg := encL_get hti
    have hmem := List.mem_of_getElem? hti
    have ht1 := size_mem hmem
    have ht2 := deep_size t
    have hst : sSize [encT t] = some (.int .i64 t.size) := by
     simp only [sSize, decT_enc]
     rw [if_pos (by omega)]
    have hdt : sDeep [encT t] = some (.int .i64 t.deep) := by
     simp only [sDeep, decT_enc]
     rw [if_pos (by omega)]
    have hnx := take_next hti
    have hsi : sizeL (l.take (i + 1)) = sizeL (l.take i) + t.size := by rw [hnx, sizeL_append, sizeL_one]
    have hle := sizeL_take l (i + 1)
    have ek := size_kids t
    have ed := deep_kids t
    obtain ⟨k, s', a, hen⟩ := enc_kids t
    rw [hen] at hg hst hdt
    simp [h3, h4, h7, h6, hlt, encL_len]
    simp only [lf6_B0, vc_block]
    refine loop_ind (fun fr H => ∃ j : Nat, j ≤ (kidsOf t).length ∧ fr 3 = .p (.lst (ws.map Wd.v)) ∧ fr 4 = .p (.lst (encL l)) ∧ fr 7 = .p (.int .i64 (i : Int)) ∧ fr 6 = .p (.int .i64 ((sizeL (l.take i) : Nat) : Int)) ∧
      fr 10 = .p (.int .i64 (j : Int)) ∧ fr 8 = .p (.int .i64 ((1 + sizeL ((kidsOf t).take j) : Nat) : Int)) ∧ fr 9 = .p (.int .i64 ((deepL ((kidsOf t).take j) : Nat) : Int)))
     (fun fr _ => (kidsOf t).length - ivar (fr 10)) ⟨0, by simp, by simp [h3], by simp [h4], by simp [h7], by simp [h6], by simp, by simp [sizeL], by simp [deepL]⟩ ?_
    rintro fr H ⟨j, hj, h3, h4, h7, h6, h10, h8, h9⟩
    have hkl := len_size (kidsOf t)
    by_cases hjt : j < (kidsOf t).length
    ·obtain ⟨u, huj⟩ : ∃ u, (kidsOf t)[j]? = some u := ⟨_, List.getElem?_eq_getElem hjt⟩
     have hgu := encL_get huj
     have hum := List.mem_of_getElem? huj
     have hu1 := size_mem hum
     have hu2 := deep_size u
     have hsu : sSize [encT u] = some (.int .i64 u.size) := by
      simp only [sSize, decT_enc]
      rw [if_pos (by omega)]
     have hdu : sDeep [encT u] = some (.int .i64 u.deep) := by
      simp only [sDeep, decT_enc]
      rw [if_pos (by omega)]
     have hnu := take_next huj
     have hsu2 : sizeL ((kidsOf t).take (j + 1)) = sizeL ((kidsOf t).take j) + u.size := by rw [hnu, sizeL_append, sizeL_one]
     have hdu2 : deepL ((kidsOf t).take (j + 1)) = max (deepL ((kidsOf t).take j)) u.deep := by rw [hnu, deepL_append, deepL_one]
     have hsle := sizeL_take (kidsOf t) (j + 1)
     obtain ⟨ub, uk, us, ua, uvs, uen⟩ := encT_shape u
     rw [uen] at hgu hsu hdu
     obtain ⟨_, hgu'⟩ := List.getElem?_eq_some_iff.1 hgu
     have w1 : IntKind.i64.wrap (1 + (sizeL ((kidsOf t).take j) : Int) + u.size) = 1 + (sizeL ((kidsOf t).take j) : Int) + u.size := IntWalk.i64_in _ (by omega)
     simp [h3, h4, h7, h6, h10, h8, h9, hg, hjt, encL_len, hgu', hsu, hdu, w1, wrap_succ (i := j) (by omega)]
     exact ⟨⟨j + 1, by omega, by simp, by omega, by rw [hdu2]; split <;> omega⟩, by simp only [ivar]; omega⟩
    ·have hje : j = (kidsOf t).length := by omega
     subst hje
     rw [List.take_length] at h8 h9
     have w2 : IntKind.i64.wrap ((sizeL (l.take i) : Int) + (1 + (sizeL (kidsOf t) : Int))) = (sizeL (l.take i) : Int) + (1 + (sizeL (kidsOf t) : Int)) := IntWalk.i64_in _ (by omega)
     have w3 : IntKind.i64.wrap ((deepL (kidsOf t) : Int) + 1) = (deepL (kidsOf t) : Int) + 1 := IntWalk.i64_in _ (by omega)
     by_cases hlst : isLst t = true
     ·rw [if_pos hlst] at ed
      rw [hlst] at hg hst hdt
      simp [h3, h4, h7, h6, h10, h8, h9, hg, encL_len, hst, hdt, ek, ed, hlst, w2, w3, wrap_succ (i := i) (by omega)]
      exact ⟨⟨i + 1, by omega, by simp, by omega⟩, by simp only [ivar]; omega⟩
     ·rw [if_neg hlst] at ed
      rw [show isLst t = false by simpa using hlst] at hg hst hdt
      simp [h3, h4, h7, h6, h10, h8, h9, hg, encL_len, hst, hdt, ek, ed, hlst, w2, wrap_succ (i := i) (by omega)]
      exact ⟨⟨i + 1, by omega, by simp, by omega⟩, by simp only [ivar]; omega⟩
   ·have hil : i = l.length := by omega
    subst hil
    rw [List.take_length] at h6
    simp [h3, h4, h7, h6, encL_len]
    simp only [lf6_B2, vc_block]
    refine loop_ind (fun fr H => ∃ j : Nat, j ≤ ws.length ∧ fr 3 = .p (.lst (ws.map Wd.v)) ∧ fr 6 = .p (.int .i64 (sizeL l : Int)) ∧ fr 12 = .p (.int .i64 (j : Int)) ∧ fr 11 = .p (.int .i64 ((opens Wd.kind (ws.take j) : Nat) : Int)))
     (fun fr _ => ws.length - ivar (fr 12)) ⟨0, by simp, by simp [h3], by simp [h6], by simp, by simp [opens]⟩ ?_
    rintro fr H ⟨j, hj, h3, h6, h12, h11⟩
    by_cases hjt : j < ws.length
    ·obtain ⟨w, hwj⟩ : ∃ w, ws[j]? = some w := ⟨_, List.getElem?_eq_getElem hjt⟩
     have hop := opens_take hwj
     have hol2 := opens_le (ws.take j)
     rw [List.length_take] at hol2
     obtain ⟨_, hgw⟩ := List.getElem?_eq_some_iff.1 hwj
     have hwv : w.v = .agg [.int .i64 w.kind, .str w.text, .int .i64 w.at_] := rfl
     have w4 : IntKind.i64.wrap ((opens Wd.kind (ws.take j) : Int) + 1) = (opens Wd.kind (ws.take j) : Int) + 1 := IntWalk.i64_in _ (by omega)
     by_cases hk1 : w.kind = 1
     ·rw [if_pos hk1] at hop
      rw [hk1] at hwv
      simp [h3, h6, h12, h11, hjt, hgw, hwv, w4, wrap_succ (i := j) (by omega)]
      exact ⟨⟨j + 1, by omega, by simp, by omega⟩, by simp only [ivar]; omega⟩
     ·rw [if_neg hk1] at hop
      have hk1' : (w.kind == 1) = false := by simpa using hk1
      simp [h3, h6, h12, h11, hjt, hgw, hwv, hk1', wrap_succ (i := j) (by omega)]
      exact ⟨⟨j + 1, by omega, by simp, by omega⟩, by simp only [ivar]; omega⟩
    ·have hje : j = ws.length := by omega
     subst hje
     rw [List.take_length] at h11
     have w5 : IntKind.i64.wrap ((ws.length : Int) - (opens Wd.kind ws : Int)) = (ws.length : Int) - (opens Wd.kind ws : Int) := IntWalk.i64_in _ (by omega)
     have heq : (sizeL l : Int) = (ws.length : Int) - (opens Wd.kind ws : Int) := by omega
     simp [h3, h6, h12, h11, w5, heq, aw_is]
end Go.Proofs.YtdaiicaeklcceaaDoor
