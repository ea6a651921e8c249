/-
  Trees of words written and read again; lists within lists; the plain law. No conditions beyond the lemmas' own hypotheses.
-/
import Derived.Test.YtcbagnlidecmkaaGreatDoorSexpA
import Derived.Test.YtcbagnlidecmkaaGreatDoorLexP
set_option linter.unusedSimpArgs false
set_option linter.unnecessarySimpa false
set_option linter.unusedVariables false
set_option linter.constructorNameAsVariable false

/-
 law12: words as they are written, and read again: the plain law.
-/
namespace Go.Lex
open Go Go.Abs Go.Sexp
set_option maxRecDepth 20000
def wrW (kd : Int) (t : List UInt8) : List UInt8 :=
 if kd = 3 then (if isRes t = true then t else (quoteS t).getD [])
 else if kd = 4 then 58 :: t
 else if kd = 7 then 34 :: (dbl t ++ [34])
 else t
def okW (kd : Int) (t : List UInt8) : PVal × List UInt8 := (.tup [wordV kd t 0, .bool true], [])
def Reads (kd : Int) (t : List UInt8) : Prop := ∃ c r, wrW kd t = c :: r ∧ isBlank c = false ∧ c ≠ 59 ∧ wordS (c :: r) = okW kd t
theorem sign_head {c : UInt8} (h : isSign c = true) : isBlank c = false ∧ c ≠ 59 ∧ c ≠ 40 ∧ c ≠ 41 ∧ c ≠ 34 ∧ c ≠ 124 ∧ c ≠ 58 := by
 have h1 := sign_ne h (d := 32) (by decide)
 have h2 := sign_ne h (d := 9) (by decide)
 have h3 := sign_ne h (d := 10) (by decide)
 have h4 := sign_ne h (d := 13) (by decide)
 exact ⟨by simp [isBlank, h1, h2, h3, h4], sign_ne h (by decide), sign_ne h (by decide), sign_ne h (by decide), sign_ne h (by decide), sign_ne h (by decide), sign_ne h (by decide)⟩
theorem digit_is_sign {c : UInt8} (h : isDigit c = true) : isSign c = true := by unfold isSign; rw [h]; rfl
theorem plain_word {s : List UInt8} (h : isPlain s = true) : ∃ c r, s = c :: r ∧ isBlank c = false ∧ c ≠ 59 ∧ wordS (c :: r) = okW 3 s := by
 cases s with
 | nil => simp [isPlain] at h
 | cons c r =>
  unfold isPlain at h
  simp only [Bool.and_eq_true, Bool.not_eq_true'] at h
  obtain ⟨hall, hdig⟩ := h
  have hc : isSign c = true := by simp only [List.all_cons, Bool.and_eq_true] at hall; exact hall.1
  obtain ⟨k1, k2, k3, k4, k5, k6, k7⟩ := sign_head hc
  refine ⟨c, r, rfl, k1, k2, ?_⟩
  obtain ⟨t1, t2⟩ := tk_all hall
  simp only [wordS]
  rw [if_neg k3, if_neg k4, if_neg k5, if_neg k6, if_neg k7, if_neg (by simp [hdig]), t1, t2]
  rfl
theorem res_plain {t : List UInt8} (h : isRes t = true) : isPlain t = true := by
 have hall : ∀ w ∈ resWords, isPlain w = true := by decide +kernel
 unfold isRes at h
 exact hall t (by simpa using h)
theorem takeWhile_all {p : UInt8 → Bool} : ∀ l : List UInt8, (l.takeWhile p).all p = true
 | [] => rfl
 | c :: l => by
  rw [List.takeWhile_cons]
  split
  ·rename_i h
   rw [List.all_cons, h, takeWhile_all l]; rfl
  ·rfl
theorem reads_symbol {t : List UInt8} (h : isPlain t = true ∨ t.all isInBars = true) : Reads 3 t ∧ (isPlain t = true → wrW 3 t = t) ∧ (wrW 3 t).length ≤ t.length + 2 := by
 unfold Reads wrW
 rw [if_pos rfl]
 by_cases hr : isRes t = true
 ·rw [if_pos hr]
  exact ⟨plain_word (res_plain hr), fun _ => rfl, by omega⟩
 ·rw [if_neg hr]
  by_cases hp : isPlain t = true
  ·have hq : quoteS t = some t := by unfold quoteS; rw [hp, Bool.eq_false_iff.2 hr]; rfl
   rw [hq]
   exact ⟨plain_word hp, fun _ => rfl, by show t.length ≤ _; omega⟩
  ·have hb : t.all isInBars = true := h.resolve_left hp
   have hq : quoteS t = some (124 :: (t ++ [124])) := by
    unfold quoteS
    rw [Bool.eq_false_iff.2 hp, hb]
    rfl
   obtain ⟨c, r, e, b1, b2, b3⟩ := quote_word hq
   rw [hq]
   exact ⟨⟨c, r, e, b1, b2, b3⟩, fun h => absurd h hp, by simp⟩
theorem reads_keyword {t : List UInt8} (h : t.all isSign = true) (h0 : t ≠ []) : Reads 4 t := by
 refine ⟨58, t, rfl, by decide, by decide, ?_⟩
 obtain ⟨t1, t2⟩ := tk_all h
 simp only [wordS]
 rw [if_neg (by decide), if_neg (by decide), if_neg (by decide), if_neg (by decide), if_pos trivial, t1, t2]
 have : (t == []) = false := by simpa using h0
 rw [this]
 rfl
theorem textS_inner : ∀ {l t q : List UInt8}, textS l = (some t, q) → t.all isInner = true ∧ (dbl t).length + 1 + q.length ≤ l.length
 | [], t, q, h => by simp [textS] at h
 | [c], t, q, h => by
  simp only [textS] at h
  split at h
  ·cases h; simp [dbl]
  ·split at h <;> cases h
 | c :: d :: r, t, q, h => by
  simp only [textS] at h
  split at h
  ·split at h
   ·rename_i hc hd
    rcases hx : textS r with ⟨o, q'⟩
    rw [hx] at h
    cases o with
    | none => simp at h
    | some y =>
     simp only [Option.map_some, Prod.mk.injEq, Option.some.injEq] at h
     obtain ⟨rfl, rfl⟩ := h
     obtain ⟨i1, i2⟩ := textS_inner hx
     refine ⟨by rw [List.all_cons, i1]; decide, ?_⟩
     simp only [dbl, if_true, List.length_cons]
     omega
   ·cases h
    refine ⟨rfl, ?_⟩
    simp only [dbl, List.length_nil, List.length_cons]
    omega
  ·rename_i hc
   split at h
   ·rename_i hi
    rcases hx : textS (d :: r) with ⟨o, q'⟩
    rw [hx] at h
    cases o with
    | none => simp at h
    | some y =>
     simp only [Option.map_some, Prod.mk.injEq, Option.some.injEq] at h
     obtain ⟨rfl, rfl⟩ := h
     obtain ⟨i1, i2⟩ := textS_inner hx
     refine ⟨by rw [List.all_cons, i1, hi]; rfl, ?_⟩
     simp only [dbl, if_neg hc, List.length_cons] at i2 ⊢
     omega
   ·cases h
theorem reads_text {t : List UInt8} (h : t.all isInner = true) : Reads 7 t := by
 refine ⟨34, dbl t ++ [34], rfl, by decide, by decide, ?_⟩
 have e : wordS (34 :: (dbl t ++ [34])) = texS (34 :: (dbl t ++ [34])) := by simp [wordS]
 rw [e]
 unfold texS
 simp only [List.drop_succ_cons, List.drop_zero]
 rw [textS_dbl t [34] h]
 have : textS [34] = (some [], []) := rfl
 rw [this]
 simp only [Option.map_some, List.append_nil]
 rfl
theorem numS_reads {c : UInt8} {r : List UInt8} {kd : Int} {t rest : List UInt8} (hd : isDigit c = true) (h : numS (c :: r) = (.tup [wordV kd t 0, .bool true], rest)) :
  (kd = 5 ∨ kd = 6) ∧ (∃ r', t = c :: r') ∧ numS t = okW kd t ∧ t.length + rest.length ≤ r.length + 1 := by
 have hsplit := tw_dw isDigit (c :: r)
 have htake : ∃ r1, (c :: r).takeWhile isDigit = c :: r1 := ⟨r.takeWhile isDigit, by rw [List.takeWhile_cons, if_pos hd]⟩
 have hall := takeWhile_all (p := isDigit) (c :: r)
 unfold numS at h
 simp only at h
 generalize (c :: r).takeWhile isDigit = d at h hsplit htake hall
 obtain ⟨r1, hr1⟩ := htake
 obtain ⟨d1, d2⟩ := tk_all hall
 split at h
 ·rename_i a b q hq
  rw [hq] at hsplit
  split at h
  ·rename_i hab
   obtain ⟨rfl, hb⟩ := hab
   simp only [Prod.mk.injEq, PVal.tup.injEq, List.cons.injEq, PVal.bool.injEq, and_true, wordV, PVal.agg.injEq, PVal.int.injEq, PVal.str.injEq, true_and] at h
   obtain ⟨⟨⟨rfl, rfl⟩, hok⟩, rfl⟩ := h
   have hsp2 := tw_dw isDigit (b :: q)
   have hall2 := takeWhile_all (p := isDigit) (b :: q)
   have htk2 : ∃ f1, (b :: q).takeWhile isDigit = b :: f1 := ⟨q.takeWhile isDigit, by rw [List.takeWhile_cons, if_pos hb]⟩
   generalize (b :: q).takeWhile isDigit = f at hok hsp2 hall2 htk2 ⊢
   generalize (b :: q).dropWhile isDigit = g at hok hsp2 ⊢
   obtain ⟨f1, rfl⟩ := htk2
   obtain ⟨f2, f3⟩ := tk_all hall2
   have hok1 : numOk d = true := by
    cases hn : numOk d with
    | true => rfl
    | false => rw [hn] at hok; cases hok
   refine ⟨.inr rfl, ⟨r1 ++ [46] ++ (b :: f1), by rw [hr1]; rfl⟩, ?_, ?_⟩
   ·unfold numS
    simp only
    have e1 : d ++ [46] ++ (b :: f1) = d ++ 46 :: (b :: f1) := by rw [List.append_assoc]; rfl
    have e2 : (d ++ 46 :: (b :: f1)).takeWhile isDigit = d := by rw [tk_app (by decide), d1]
    have e3 : (d ++ 46 :: (b :: f1)).dropWhile isDigit = 46 :: b :: f1 := by rw [dw_app (by decide), d2]; rfl
    rw [e1, e2, e3]
    simp only
    rw [if_pos ⟨trivial, hb⟩, f2, f3, hok1]
    rw [e1]
    rfl
   ·simp only [List.length_append, List.length_cons, List.length_nil] at hsplit hsp2 ⊢
    omega
  ·simp only [Prod.mk.injEq, PVal.tup.injEq, List.cons.injEq, PVal.bool.injEq, and_true, wordV, PVal.agg.injEq, PVal.int.injEq, PVal.str.injEq, true_and] at h
   obtain ⟨⟨⟨rfl, rfl⟩, hok⟩, rfl⟩ := h
   have hok1 : numOk d = true := by
    cases hn : numOk d with
    | true => rfl
    | false => rw [hn] at hok; cases hok
   refine ⟨.inl rfl, ⟨r1, hr1⟩, ?_, ?_⟩
   ·unfold numS
    simp only
    rw [d2, d1, hok1]
    rfl
   ·simp only [List.length_append, List.length_cons] at hsplit ⊢
    omega
 ·rename_i q hq
  simp only [Prod.mk.injEq, PVal.tup.injEq, List.cons.injEq, PVal.bool.injEq, and_true, wordV, PVal.agg.injEq, PVal.int.injEq, PVal.str.injEq, true_and] at h
  obtain ⟨⟨⟨rfl, rfl⟩, hok⟩, rfl⟩ := h
  have hok1 : numOk d = true := by
   cases hn : numOk d with
   | true => rfl
   | false => rw [hn] at hok; cases hok
  refine ⟨.inl rfl, ⟨r1, hr1⟩, ?_, ?_⟩
  ·unfold numS
   simp only
   rw [d2, d1, hok1]
   rfl
  ·simp only [List.length_append, List.length_cons] at hsplit ⊢
   omega
theorem write_word {c : UInt8} {r rest : List UInt8} {kd : Int} {t : List UInt8} (h : wordS (c :: r) = (.tup [wordV kd t 0, .bool true], rest)) :
  ((kd = 1 ∨ kd = 2) ∧ t = [] ∧ rest.length + 1 ≤ r.length + 1) ∨ (kd ≠ 1 ∧ kd ≠ 2 ∧ Reads kd t ∧ (wrW kd t).length + rest.length ≤ r.length + 1) := by
 simp only [wordS] at h
 by_cases h40 : c = 40
 ·rw [if_pos h40] at h
  simp only [Prod.mk.injEq, PVal.tup.injEq, List.cons.injEq, and_true, wordV, PVal.agg.injEq, PVal.int.injEq, PVal.str.injEq, true_and] at h
  obtain ⟨⟨rfl, rfl⟩, rfl⟩ := h
  exact .inl ⟨.inl rfl, rfl, by omega⟩
 rw [if_neg h40] at h
 by_cases h41 : c = 41
 ·rw [if_pos h41] at h
  simp only [Prod.mk.injEq, PVal.tup.injEq, List.cons.injEq, and_true, wordV, PVal.agg.injEq, PVal.int.injEq, PVal.str.injEq, true_and] at h
  obtain ⟨⟨rfl, rfl⟩, rfl⟩ := h
  exact .inl ⟨.inr rfl, rfl, by omega⟩
 rw [if_neg h41] at h
 right
 by_cases h34 : c = 34
 ·rw [if_pos h34] at h
  unfold texS at h
  simp only [List.drop_succ_cons, List.drop_zero] at h
  rcases hx : textS r with ⟨o, q⟩
  rw [hx] at h
  cases o with
  | none => simp at h
  | some y =>
   simp only [Prod.mk.injEq, PVal.tup.injEq, List.cons.injEq, and_true, wordV, PVal.agg.injEq, PVal.int.injEq, PVal.str.injEq, true_and] at h
   obtain ⟨⟨rfl, rfl⟩, rfl⟩ := h
   obtain ⟨i1, i2⟩ := textS_inner hx
   refine ⟨by decide, by decide, reads_text i1, ?_⟩
   show (34 :: (dbl y ++ [34])).length + _ ≤ _
   simp only [List.length_cons, List.length_append, List.length_nil]
   omega
 rw [if_neg h34] at h
 by_cases h124 : c = 124
 ·rw [if_pos h124] at h
  unfold quoS at h
  simp only [List.drop_succ_cons, List.drop_zero] at h
  have hsp := tw_dw isInBars r
  split at h
  ·simp at h
  ·rename_i d q hq
   rw [hq] at hsp
   split at h
   ·simp only [Prod.mk.injEq, PVal.tup.injEq, List.cons.injEq, and_true, wordV, PVal.agg.injEq, PVal.int.injEq, PVal.str.injEq, true_and] at h
    obtain ⟨⟨rfl, rfl⟩, rfl⟩ := h
    obtain ⟨s1, -, s3⟩ := reads_symbol (.inr (takeWhile_all (p := isInBars) r))
    refine ⟨by decide, by decide, s1, ?_⟩
    simp only [List.length_append, List.length_cons] at hsp
    omega
   ·simp at h
 rw [if_neg h124] at h
 by_cases h58 : c = 58
 ·rw [if_pos h58] at h
  have hsp := tw_dw isSign r
  simp only [Prod.mk.injEq, PVal.tup.injEq, List.cons.injEq, PVal.bool.injEq, and_true, wordV, PVal.agg.injEq, PVal.int.injEq, PVal.str.injEq, true_and] at h
  obtain ⟨⟨⟨rfl, rfl⟩, hne⟩, rfl⟩ := h
  refine ⟨by decide, by decide, reads_keyword (takeWhile_all r) (by simpa using hne), ?_⟩
  show (58 :: r.takeWhile isSign).length + _ ≤ _
  simp only [List.length_append, List.length_cons] at hsp ⊢
  omega
 rw [if_neg h58] at h
 by_cases hd : isDigit c = true
 ·rw [if_pos hd] at h
  obtain ⟨k1, ⟨r', rfl⟩, k2, k3⟩ := numS_reads hd h
  obtain ⟨b1, b2, -⟩ := sign_head (digit_is_sign hd)
  have hw : wrW kd (c :: r') = c :: r' := by
   unfold wrW
   rw [if_neg (by omega), if_neg (by omega), if_neg (by omega)]
  refine ⟨by omega, by omega, ⟨c, r', hw, b1, b2, ?_⟩, by rw [hw]; exact k3⟩
  simp only [wordS]
  rw [if_neg h40, if_neg h41, if_neg h34, if_neg h124, if_neg h58, if_pos hd]
  exact k2
 ·rw [if_neg hd] at h
  have hsp := tw_dw isSign (c :: r)
  have hall := takeWhile_all (p := isSign) (c :: r)
  simp only [Prod.mk.injEq, PVal.tup.injEq, List.cons.injEq, PVal.bool.injEq, and_true, wordV, PVal.agg.injEq, PVal.int.injEq, PVal.str.injEq, true_and] at h
  obtain ⟨⟨⟨rfl, rfl⟩, hne⟩, rfl⟩ := h
  have hp : isPlain ((c :: r).takeWhile isSign) = true := by
   unfold isPlain
   rw [hall, Bool.true_and]
   by_cases hs : isSign c = true
   ·rw [List.takeWhile_cons, if_pos hs]
    simpa using hd
   ·rw [List.takeWhile_cons, if_neg hs] at hne
    simp at hne
  obtain ⟨s1, s2, -⟩ := reads_symbol (.inl hp)
  refine ⟨by decide, by decide, s1, ?_⟩
  rw [s2 hp]
  simp only [List.length_append, List.length_cons] at hsp
  omega
end Go.Lex

/-
 law12: trees as they are written, and read again: the plain law.
-/
namespace Go.Lex
open Go Go.Abs Go.Sexp
set_option maxRecDepth 20000
abbrev Key := Int × List UInt8
def key (w : Wd) : Key := (w.kind, w.text)
def kO : Key := (1, [])
def kC : Key := (2, [])
mutual
def showK : Tr Key → List UInt8
 | .leaf w => wrW w.1 w.2
 | .list kids => 40 :: (showKL kids ++ [41])
def showKL : List (Tr Key) → List UInt8
 | [] => []
 | t :: r => showK t ++ showTail r
def showTail : List (Tr Key) → List UInt8
 | [] => []
 | t :: r => 32 :: (showK t ++ showTail r)
end
def RdK (w : Key) : Prop := w.1 ≠ 1 ∧ w.1 ≠ 2 ∧ Reads w.1 w.2
theorem wordS_is (c : UInt8) (r : List UInt8) : IsAns (wordS (c :: r)).1 := by
 simp only [wordS]
 split
 ·exact ⟨_, _, _, rfl⟩
 ·split
  ·exact ⟨_, _, _, rfl⟩
  ·split
   ·exact texS_ans _
   ·split
    ·exact quoS_ans _
    ·split
     ·exact ⟨_, _, _, rfl⟩
     ·split
      ·exact numS_ans _
      ·exact ⟨_, _, _, rfl⟩
theorem ansK_word (kd : Int) (t : List UInt8) (ok : Bool) : ansK (.tup [wordV kd t 0, .bool ok]) = (kd, t, ok) := rfl
theorem lex_step {N : Nat} {c : UInt8} {r rest : List UInt8} {kd : Int} {t : List UInt8} (hb : isBlank c = false) (h59 : c ≠ 59) (h : wordS (c :: r) = (.tup [wordV kd t 0, .bool true], rest)) :
  lexL N (c :: r) = (lexL N rest).map (⟨kd, t, N - (r.length + 1)⟩ :: ·) := by
 rw [lexL_eq, skip_word hb h59]
 simp only [h, ansK_word]
theorem lex_blank {N : Nat} {s : UInt8} (h : isBlank s = true) (b : List UInt8) : lexL N (s :: b) = lexL N b := lexL_skip (skip_blank h b)
def Sep (s : UInt8) : Prop := isSign s = false ∧ s ≠ 34
theorem lex_word {N : Nat} {kd : Int} {t : List UInt8} {s : UInt8} {b : List UInt8} (h : Reads kd t) (hs : Sep s) : ∃ i, lexL N (wrW kd t ++ s :: b) = (lexL N (s :: b)).map (⟨kd, t, i⟩ :: ·) := by
 obtain ⟨c, r, e, h1, h2, h3⟩ := h
 have hw := wordS_app hs.1 hs.2 b (c := c) (r := r) (by rw [h3]; rfl)
 rw [h3] at hw
 refine ⟨N - ((r ++ s :: b).length + 1), ?_⟩
 rw [e, List.cons_append]
 exact lex_step h1 h2 hw
theorem lex_open {N : Nat} (x : List UInt8) : ∃ i, lexL N (40 :: x) = (lexL N x).map (⟨1, [], i⟩ :: ·) := ⟨_, lex_step (by decide) (by decide) (by simp [wordS])⟩
theorem lex_close {N : Nat} (x : List UInt8) : ∃ i, lexL N (41 :: x) = (lexL N x).map (⟨2, [], i⟩ :: ·) := ⟨_, lex_step (by decide) (by decide) (by simp [wordS])⟩
theorem map_app_app {α : Type} (o : Option (List α)) (f g : List α) : (o.map (g ++ ·)).map (f ++ ·) = o.map ((f ++ g) ++ ·) := by cases o <;> simp
mutual
theorem lex_show (N : Nat) : ∀ (t : Tr Key) (s : UInt8) (b : List UInt8), t.all RdK → Sep s → ∃ f : List Wd, lexL N (showK t ++ s :: b) = (lexL N (s :: b)).map (f ++ ·) ∧ f.map key = flatT kO kC t
 | .leaf w, s, b, h, hs => by
  obtain ⟨i, e⟩ := lex_word (N := N) (b := b) (show Reads w.1 w.2 from h.2.2) hs
  exact ⟨[⟨w.1, w.2, i⟩], e, rfl⟩
 | .list kids, s, b, h, hs => by
  obtain ⟨f, e, m⟩ := lex_kids N kids (s :: b) h
  obtain ⟨i, ei⟩ := lex_open (N := N) (showKL kids ++ 41 :: (s :: b))
  obtain ⟨j, ej⟩ := lex_close (N := N) (s :: b)
  refine ⟨⟨1, [], i⟩ :: (f ++ [⟨2, [], j⟩]), ?_, ?_⟩
  ·show lexL N (40 :: (showKL kids ++ [41]) ++ s :: b) = _
   rw [List.cons_append, List.append_assoc]
   show lexL N (40 :: (showKL kids ++ 41 :: (s :: b))) = _
   rw [ei, e, ej]
   cases lexL N (s :: b) with
   | none => rfl
   | some x => simp
  ·rw [List.map_cons, List.map_append, m]
   rfl
theorem lex_kids (N : Nat) : ∀ (l : List (Tr Key)) (b : List UInt8), allL RdK l → ∃ f : List Wd, lexL N (showKL l ++ 41 :: b) = (lexL N (41 :: b)).map (f ++ ·) ∧ f.map key = flatL kO kC l
 | [], b, _ => ⟨[], by show lexL N (41 :: b) = _; cases lexL N (41 :: b) <;> rfl, rfl⟩
 | t :: r, b, h => by
  obtain ⟨s, b', eb, hs⟩ : ∃ s b', showTail r ++ 41 :: b = s :: b' ∧ Sep s := by
   cases r with
   | nil => exact ⟨41, b, rfl, by decide, by decide⟩
   | cons u r => exact ⟨32, _, rfl, by decide, by decide⟩
  obtain ⟨f, e, m⟩ := lex_show N t s b' h.1 hs
  obtain ⟨g, e2, m2⟩ := lex_tail N r b h.2
  refine ⟨f ++ g, ?_, ?_⟩
  ·show lexL N (showK t ++ showTail r ++ 41 :: b) = _
   rw [List.append_assoc, eb, e, ← eb, e2, map_app_app]
  ·rw [List.map_append, m, m2]; rfl
theorem lex_tail (N : Nat) : ∀ (l : List (Tr Key)) (b : List UInt8), allL RdK l → ∃ f : List Wd, lexL N (showTail l ++ 41 :: b) = (lexL N (41 :: b)).map (f ++ ·) ∧ f.map key = flatL kO kC l
 | [], b, _ => ⟨[], by show lexL N (41 :: b) = _; cases lexL N (41 :: b) <;> rfl, rfl⟩
 | t :: r, b, h => by
  obtain ⟨s, b', eb, hs⟩ : ∃ s b', showTail r ++ 41 :: b = s :: b' ∧ Sep s := by
   cases r with
   | nil => exact ⟨41, b, rfl, by decide, by decide⟩
   | cons u r => exact ⟨32, _, rfl, by decide, by decide⟩
  obtain ⟨f, e, m⟩ := lex_show N t s b' h.1 hs
  obtain ⟨g, e2, m2⟩ := lex_tail N r b h.2
  refine ⟨f ++ g, ?_, ?_⟩
  ·show lexL N (32 :: (showK t ++ showTail r) ++ 41 :: b) = _
   rw [List.cons_append, lex_blank (by decide), List.append_assoc, eb, e, ← eb, e2, map_app_app]
  ·rw [List.map_append, m, m2]; rfl
end
def wgt (w : Key) : Nat := if w.1 = 1 ∨ w.1 = 2 then 1 else (wrW w.1 w.2).length
def wgtL : List Key → Nat
 | [] => 0
 | w :: r => wgt w + wgtL r
theorem wgtL_append : ∀ l r : List Key, wgtL (l ++ r) = wgtL l + wgtL r
 | [], r => by simp [wgtL]
 | w :: l, r => by simp only [List.cons_append, wgtL, wgtL_append l r]; omega
mutual
theorem show_len : ∀ t : Tr Key, t.all RdK → (showK t).length + 1 ≤ wgtL (flatT kO kC t) + (flatT kO kC t).length
 | .leaf w, h => by
  have : wgt w = (wrW w.1 w.2).length := by unfold wgt; rw [if_neg (fun e => e.elim h.1 h.2.1)]
  show (wrW w.1 w.2).length + 1 ≤ (wgt w + 0) + 1
  omega
 | .list kids, h => by
  have := kids_len kids h
  show (40 :: (showKL kids ++ [41])).length + 1 ≤ wgtL (kO :: (flatL kO kC kids ++ [kC])) + (kO :: (flatL kO kC kids ++ [kC])).length
  have h1 : wgt kO = 1 := rfl
  have h2 : wgtL [kC] = 1 := rfl
  rw [wgtL, wgtL_append, h1, h2]
  simp only [List.length_cons, List.length_append, List.length_nil]
  omega
theorem kids_len : ∀ l : List (Tr Key), allL RdK l → (showKL l).length ≤ wgtL (flatL kO kC l) + (flatL kO kC l).length
 | [], _ => Nat.zero_le _
 | t :: r, h => by
  have h1 := show_len t h.1
  have h2 := tail_len r h.2
  show (showK t ++ showTail r).length ≤ wgtL (flatT kO kC t ++ flatL kO kC r) + (flatT kO kC t ++ flatL kO kC r).length
  rw [wgtL_append]
  simp only [List.length_append]
  omega
theorem tail_len : ∀ l : List (Tr Key), allL RdK l → (showTail l).length ≤ wgtL (flatL kO kC l) + (flatL kO kC l).length
 | [], _ => Nat.zero_le _
 | t :: r, h => by
  have h1 := show_len t h.1
  have h2 := tail_len r h.2
  show (32 :: (showK t ++ showTail r)).length ≤ wgtL (flatT kO kC t ++ flatL kO kC r) + (flatT kO kC t ++ flatL kO kC r).length
  rw [wgtL_append]
  simp only [List.length_cons, List.length_append]
  omega
end
def GoodK (w : Key) : Prop := (w.1 = 1 → w = kO) ∧ (w.1 = 2 → w = kC) ∧ (w.1 ≠ 1 → w.1 ≠ 2 → RdK w)
theorem lex_good (N : Nat) : ∀ (n : Nat) (l : List UInt8) (ws : List Wd), l.length < n → lexL N l = some ws → (∀ w ∈ ws, GoodK (key w)) ∧ wgtL (ws.map key) ≤ l.length ∧ ws.length ≤ l.length
 | 0, _, _, h, _ => by omega
 | n + 1, l, ws, h, hlex => by
  rw [lexL_eq] at hlex
  have h1 := skip_le l
  cases hs : skip l with
  | nil =>
   rw [hs] at hlex
   cases hlex
   exact ⟨fun w hw => (by cases hw), Nat.zero_le _, Nat.zero_le _⟩
  | cons c r =>
   rw [hs] at hlex h1
   simp only [List.length_cons] at h1
   dsimp only at hlex
   obtain ⟨kd, t, ok, ha⟩ := wordS_is c r
   rcases hw : wordS (c :: r) with ⟨a, rest⟩
   rw [hw] at ha hlex
   dsimp only at ha hlex
   subst ha
   rw [ansK_word] at hlex
   cases ok with
   | false => cases hlex
   | true =>
    simp only at hlex
    cases hr : lexL N rest with
    | none => rw [hr] at hlex; cases hlex
    | some ws' =>
     rw [hr] at hlex
     simp only [Option.map_some, Option.some.injEq] at hlex
     subst hlex
     have key1 : rest.length < n ∧ GoodK (kd, t) ∧ wgt (kd, t) + rest.length ≤ l.length ∧ 1 + rest.length ≤ l.length := by
      rcases write_word hw with ⟨k1, rfl, k3⟩ | ⟨k1, k2, k3, k4⟩
      ·refine ⟨by omega, ?_, ?_, by omega⟩
       ·rcases k1 with rfl | rfl
        ·exact ⟨fun _ => rfl, fun e => absurd e (by decide), fun e => absurd rfl e⟩
        ·exact ⟨fun e => absurd e (by decide), fun _ => rfl, fun _ e => absurd rfl e⟩
       ·unfold wgt
        rw [if_pos k1]
        omega
      ·have hne : 0 < (wrW kd t).length := by
        obtain ⟨c', r', e, -⟩ := k3
        rw [e]; simp
       refine ⟨by omega, ⟨fun e => absurd e k1, fun e => absurd e k2, fun _ _ => ⟨k1, k2, k3⟩⟩, ?_, by omega⟩
       unfold wgt
       rw [if_neg (fun e => e.elim k1 k2)]
       dsimp only
       omega
     obtain ⟨q1, q2, q3, q4⟩ := key1
     obtain ⟨i1, i2, i3⟩ := lex_good N n rest ws' q1 hr
     refine ⟨?_, ?_, ?_⟩
     ·intro w hw
      rcases List.mem_cons.1 hw with rfl | hw
      ·exact q2
      ·exact i1 w hw
     ·show wgt (kd, t) + wgtL (ws'.map key) ≤ _
      omega
     ·simp only [List.length_cons]
      omega
end Go.Lex

/-
 law12: the words of lists within lists: the plain law.
-/
namespace Go.Lex
open Go Go.Abs Go.Sexp
set_option maxRecDepth 20000
end Go.Lex

/-
 law12: trees as they lie in memory.
-/
namespace Go.Lex
open Go Go.Abs Go.Sexp
set_option maxRecDepth 20000
mutual
def encT : Tr Wd → PVal
 | .leaf w => .agg [.bool false, .int .i64 w.kind, .str w.text, .int .i64 w.at_, .lst []]
 | .list kids => .agg [.bool true, .int .i64 0, .str [], .int .i64 0, .lst (encL kids)]
def encL : List (Tr Wd) → List PVal
 | [] => []
 | t :: r => encT t :: encL r
end
theorem encL_map : ∀ l : List (Tr Wd), encL l = l.map encT
 | [] => rfl
 | t :: r => by rw [encL, encL_map r]; rfl
mutual
def decT : PVal → Option (Tr Wd)
 | .agg [.bool false, .int .i64 k, .str t, .int .i64 (.ofNat a), .lst []] => some (.leaf ⟨k, t, a⟩)
 | .agg [.bool true, .int .i64 0, .str [], .int .i64 0, .lst vs] => match decTL vs with | some l => some (.list l) | none => none
 | _ => none
def decTL : List PVal → Option (List (Tr Wd))
 | [] => some []
 | v :: r => match decT v, decTL r with | some t, some l => some (t :: l) | _, _ => none
end
mutual
theorem decT_enc : ∀ t : Tr Wd, decT (encT t) = some t
 | .leaf w => rfl
 | .list kids => by
  have := decL_enc kids
  simp only [encT, decT, this]
theorem decL_enc : ∀ l : List (Tr Wd), decTL (encL l) = some l
 | [] => rfl
 | t :: r => by
  simp only [encL, decTL, decT_enc t, decL_enc r]
end
mutual
theorem decT_some : ∀ {v : PVal} {t : Tr Wd}, decT v = some t → v = encT t
 | v, t, h => by
  unfold decT at h
  split at h
  ·cases h; rfl
  ·rename_i vs
   split at h
   ·rename_i l hl
    cases h
    rw [encT, ← decL_some hl]
   ·cases h
  ·cases h
theorem decL_some : ∀ {vs : List PVal} {l : List (Tr Wd)}, decTL vs = some l → vs = encL l
 | [], l, h => by cases h; rfl
 | v :: r, l, h => by
  unfold decTL at h
  split at h
  ·rename_i t m ht hm
   cases h
   rw [encL, ← decT_some ht, ← decL_some hm]
  ·cases h
end
end Go.Lex
