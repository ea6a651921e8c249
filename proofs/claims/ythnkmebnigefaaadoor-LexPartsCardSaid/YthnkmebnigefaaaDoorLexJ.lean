/-
  The words of two texts with a line feed between, and of a word before a byte that ends it. No conditions beyond the lemmas' own hypotheses.
-/
import Derived.Test.YthnkmebnigefaaaDoorLexG
set_option linter.unusedSimpArgs false
set_option linter.unusedVariables false
set_option linter.constructorNameAsVariable false

/-
  lex: the words of two texts with a line feed between.
-/
namespace Go.Proofs.YthnkmebnigefaaaDoor
open Go Go.Abs
set_option maxRecDepth 20000

theorem dw_app {p : UInt8 → Bool} {s : UInt8} (hs : p s = false) (b : List UInt8) : ∀ l : List UInt8, (l ++ s :: b).dropWhile p = l.dropWhile p ++ s :: b
  | [] => by simp [List.dropWhile_cons, hs]
  | c :: l => by
    rw [List.cons_append, List.dropWhile_cons, List.dropWhile_cons, dw_app hs b l]
    split <;> rfl
theorem tk_app {p : UInt8 → Bool} {s : UInt8} (hs : p s = false) (b : List UInt8) : ∀ l : List UInt8, (l ++ s :: b).takeWhile p = l.takeWhile p
  | [] => by simp [List.takeWhile_cons, hs]
  | c :: l => by
    rw [List.cons_append, List.takeWhile_cons, List.takeWhile_cons, tk_app hs b l]

theorem skip_app (b : List UInt8) : ∀ (n : Nat) (l : List UInt8), l.length < n → skip (l ++ 10 :: b) = match skip l with
    | [] => skip b
    | c :: r => c :: (r ++ 10 :: b)
  | 0, _, h => by omega
  | n + 1, [], h => by
    rw [List.nil_append, skip_blank (by decide) b]
    rfl
  | n + 1, c :: l, h => by
    simp only [List.length_cons] at h
    cases hb : isBlank c with
    | true => rw [List.cons_append, skip_blank hb, skip_blank hb, skip_app b n l (by omega)]
    | false =>
      by_cases h59 : c = 59
      · subst h59
        have hl : ((59 :: l : List UInt8).dropWhile isNoBreak).length ≤ l.length := by
          rw [List.dropWhile_cons, show isNoBreak 59 = true from by decide]
          exact dropWhile_le _ _
        rw [List.cons_append, skip_note, skip_note l, ← List.cons_append, dw_app (by decide), skip_app b n _ (by omega)]
      · rw [List.cons_append, skip_word hb h59, skip_word hb h59]

theorem endOk_app {s : UInt8} (hs : isSign s = false) (b : List UInt8) : ∀ l : List UInt8, endOk (l ++ s :: b) = endOk l
  | [] => by simp [endOk, hs]
  | _ :: _ => rfl

theorem textS_app {s : UInt8} (hs : s ≠ 34) (b : List UInt8) : ∀ (l x : List UInt8), (textS l).1 = some x → textS (l ++ s :: b) = (some x, (textS l).2 ++ s :: b)
  | [], x, h => by simp [textS] at h
  | [c], x, h => by
    simp only [textS] at h
    by_cases hc : c = 34
    · rw [if_pos hc] at h
      simp only [Option.some.injEq] at h
      subst h
      simp [textS, hc, hs]
    · rw [if_neg hc] at h
      split at h <;> cases h
  | c :: d :: r, x, h => by
    simp only [textS] at h
    simp only [List.cons_append, textS]
    by_cases hc : c = 34
    · rw [if_pos hc] at h ⊢
      rw [if_pos hc]
      by_cases hd : d = 34
      · rw [if_pos hd] at h ⊢
        rw [if_pos hd]
        simp only at h
        cases hx : (textS r).1 with
        | none => rw [hx] at h; cases h
        | some y =>
          rw [hx] at h
          rw [textS_app hs b r y hx]
          simp only at h ⊢
          rw [← h]
      · rw [if_neg hd] at h ⊢
        rw [if_neg hd]
        simp only at h
        rw [← h]
        rfl
    · rw [if_neg hc] at h ⊢
      rw [if_neg hc]
      cases hi : isInner c with
      | false => rw [hi] at h; simp at h
      | true =>
        rw [hi] at h
        simp only [if_true] at h ⊢
        cases hx : (textS (d :: r)).1 with
        | none => rw [hx] at h; cases h
        | some y =>
          rw [hx] at h
          have := textS_app hs b (d :: r) y hx
          rw [List.cons_append] at this
          rw [this]
          simp only at h ⊢
          rw [← h]

theorem digit_sign {s : UInt8} (h : isSign s = false) : isDigit s = false := by
  unfold isSign at h
  cases hd : isDigit s with
  | false => rfl
  | true => rw [hd] at h; simp at h

theorem numS_app {s : UInt8} (hs : isSign s = false) (b l : List UInt8) : numS (l ++ s :: b) = ((numS l).1, (numS l).2 ++ s :: b) := by
  have hd := digit_sign hs
  have h46 : s ≠ 46 := by
    rintro rfl
    exact absurd hs (by decide)
  unfold numS
  simp only
  rw [dw_app hd, tk_app hd]
  match hl : l.dropWhile isDigit with
  | [] =>
    rw [List.nil_append]
    cases b with
    | nil => simp [endOk, hs]
    | cons b0 b => simp [h46, endOk, hs]
  | [a] => simp [hd, endOk]
  | a :: d :: r =>
    simp only [List.cons_append]
    split
    · rw [← List.cons_append, tk_app hd, dw_app hd, endOk_app hs]
    · rfl

theorem wordS_app {s : UInt8} (hs : isSign s = false) (h34 : s ≠ 34) (b : List UInt8) {c : UInt8} {r : List UInt8} (h : (ansK (wordS (c :: r)).1).2.2 = true) :
    wordS (c :: (r ++ s :: b)) = ((wordS (c :: r)).1, (wordS (c :: r)).2 ++ s :: b) := by
  simp only [wordS] at h ⊢
  by_cases h40 : c = 40
  · simp [h40]
  rw [if_neg h40] at h
  rw [if_neg h40, if_neg h40]
  by_cases h41 : c = 41
  · simp [h41]
  rw [if_neg h41] at h
  rw [if_neg h41, if_neg h41]
  by_cases hq : c = 34
  · rw [if_pos hq] at h
    rw [if_pos hq, if_pos hq]
    unfold texS at h ⊢
    simp only [List.drop_succ_cons, List.drop_zero] at h ⊢
    cases ht : (textS r).1 with
    | none =>
      cases hr : textS r with
      | mk o q =>
        rw [hr] at ht h
        simp only at ht
        subst ht
        simp [ansK, wordV] at h
    | some x =>
      rw [textS_app h34 b r x ht]
      cases hr : textS r with
      | mk o q =>
        rw [hr] at ht
        simp only at ht
        subst ht
        rfl
  rw [if_neg hq] at h
  rw [if_neg hq, if_neg hq]
  by_cases h124 : c = 124
  · rw [if_pos h124] at h
    rw [if_pos h124, if_pos h124]
    unfold quoS at h ⊢
    simp only [List.drop_succ_cons, List.drop_zero] at h ⊢
    have key : ∀ l : List UInt8, (∃ q, l.dropWhile isInBars = 124 :: q) → (l ++ s :: b).takeWhile isInBars = l.takeWhile isInBars ∧ (l ++ s :: b).dropWhile isInBars = l.dropWhile isInBars ++ s :: b := by
      intro l
      induction l with
      | nil => rintro ⟨q, hq⟩; simp at hq
      | cons e l ih =>
        rintro ⟨q, hq⟩
        rw [List.cons_append, List.dropWhile_cons, List.takeWhile_cons, List.dropWhile_cons, List.takeWhile_cons]
        rw [List.dropWhile_cons] at hq
        split
        · rename_i he
          rw [if_pos he] at hq
          obtain ⟨i1, i2⟩ := ih ⟨q, hq⟩
          exact ⟨by rw [i1], i2⟩
        · exact ⟨rfl, rfl⟩
    cases hd : r.dropWhile isInBars with
    | nil => rw [hd] at h; simp [ansK, wordV] at h
    | cons e q =>
      rw [hd] at h
      by_cases he : e = 124
      · subst he
        obtain ⟨k1, k2⟩ := key r ⟨q, hd⟩
        rw [k1, k2, hd]
        simp
      · simp [he, ansK, wordV] at h
  rw [if_neg h124] at h
  rw [if_neg h124, if_neg h124]
  by_cases h58 : c = 58
  · rw [if_pos h58, if_pos h58, tk_app hs, dw_app hs]
  rw [if_neg h58] at h
  rw [if_neg h58, if_neg h58]
  cases hdc : isDigit c with
  | true =>
    rw [if_pos rfl, if_pos rfl, ← List.cons_append, numS_app hs]
  | false =>
    rw [if_neg (by simp), if_neg (by simp), ← List.cons_append, tk_app hs, dw_app hs]

def upW (k : Nat) (w : Wd) : Wd := ⟨w.kind, w.text, w.at_ + k⟩

theorem lexL_up {M K : Nat} : ∀ (n : Nat) (l : List UInt8), l.length < n → l.length ≤ M → lexL (M + K) l = (lexL M l).map (List.map (upW K))
  | 0, _, h, _ => by omega
  | n + 1, l, h, hl => by
    rw [lexL_eq, lexL_eq M l]
    have h1 := skip_le l
    cases hs : skip l with
    | nil => rfl
    | cons c r =>
      rw [hs] at h1
      simp only [List.length_cons] at h1
      have h2 := wordS_len c r
      simp only
      cases ha : ansK (wordS (c :: r)).1 with
      | mk kd p =>
        obtain ⟨t, ok⟩ := p
        rw [ha] at h2
        cases ok with
        | false => rfl
        | true =>
          have h2 := h2 rfl
          simp only
          rw [lexL_up n _ (by omega) (by omega)]
          cases lexL M (wordS (c :: r)).2 with
          | none => rfl
          | some ws =>
            simp only [Option.map_some, List.map_cons, upW]
            rw [show M + K - (r.length + 1) = M - (r.length + 1) + K by omega]

theorem lexL_app {N : Nat} (b : List UInt8) : ∀ (n : Nat) (l : List UInt8) (ws : List Wd), l.length < n → lexL N l = some ws →
    lexL (N + (b.length + 1)) (l ++ 10 :: b) = (lexL (N + (b.length + 1)) b).map (ws ++ ·)
  | 0, _, _, h, _ => by omega
  | n + 1, l, ws, h, hlex => by
    rw [lexL_eq] at hlex
    rw [lexL_eq, skip_app b (l.length + 1) l (Nat.lt_succ_self _)]
    have h1 := skip_le l
    cases hs : skip l with
    | nil =>
      rw [hs] at hlex
      cases hlex
      simp only
      rw [← lexL_eq]
      cases lexL (N + (b.length + 1)) b <;> rfl
    | cons c r =>
      rw [hs] at hlex h1
      simp only [List.length_cons] at h1
      have h2 := wordS_len c r
      have hw := wordS_app (s := 10) (by decide) (by decide) b (c := c) (r := r)
      simp only at hlex ⊢
      cases ha : ansK (wordS (c :: r)).1 with
      | mk kd p =>
        obtain ⟨t, ok⟩ := p
        rw [ha] at h2 hlex hw
        cases ok with
        | false => cases hlex
        | true =>
          have h2 := h2 rfl
          have hw := hw rfl
          simp only at hlex
          cases hr : lexL N (wordS (c :: r)).2 with
          | none => rw [hr] at hlex; cases hlex
          | some rest =>
            rw [hr] at hlex
            simp only [Option.map_some, Option.some.injEq] at hlex
            subst hlex
            rw [hw]
            simp only [ha]
            rw [lexL_app b n _ rest (by omega) hr]
            cases lexL (N + (b.length + 1)) b with
            | none => rfl
            | some ys =>
              simp only [Option.map_some, List.cons_append, List.length_append, List.length_cons]
              rw [show N + (b.length + 1) - (r.length + (b.length + 1) + 1) = N - (r.length + 1) by omega]

/-- The words of both. -/
theorem lex_parts {a b : List UInt8} {xs : List Wd} (h : lexL a.length a = some xs) :
    lexL (a ++ 10 :: b).length (a ++ 10 :: b) = (lexL b.length b).map (fun ys => xs ++ ys.map (upW (a.length + 1))) := by
  rw [show (a ++ 10 :: b).length = a.length + (b.length + 1) by simp, lexL_app b (a.length + 1) a xs (Nat.lt_succ_self _) h]
  rw [show a.length + (b.length + 1) = b.length + (a.length + 1) by omega, lexL_up (b.length + 1) b (Nat.lt_succ_self _) (Nat.le_refl _)]
  cases lexL b.length b <;> rfl
end Go.Proofs.YthnkmebnigefaaaDoor
