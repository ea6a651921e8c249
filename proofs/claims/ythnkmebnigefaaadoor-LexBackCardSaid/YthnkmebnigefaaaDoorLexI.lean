/-
  Where the words stand, and what is read from a word's place on. No conditions beyond the lemmas' own hypotheses.
-/
import Derived.Test.YthnkmebnigefaaaDoorLexG
set_option linter.unusedSimpArgs false
set_option linter.unusedVariables false
set_option linter.constructorNameAsVariable false

/-
  lex: where the words stand.
-/
namespace Go.Proofs.YthnkmebnigefaaaDoor
open Go Go.Abs
set_option maxRecDepth 20000

/-- What the words of what is left say of their places. -/
theorem lexL_places {bs : List UInt8} : ∀ (n : Nat) (l : List UInt8) (ws : List Wd), l.length < n → l <:+ bs → lexL bs.length l = some ws →
    (∀ w, ws[0]? = some w → bs.length - l.length ≤ w.at_) ∧
    (∀ i w, ws[i]? = some w → w.at_ < bs.length ∧ lexL bs.length (bs.drop w.at_) = some (ws.drop i)) ∧
    (∀ i v w, ws[i]? = some v → ws[i + 1]? = some w → v.at_ < w.at_)
  | 0, l, ws, h, _, _ => by omega
  | n + 1, l, ws, h, hsuf, hlex => by
    have hll := hsuf.length_le
    have hlex0 := hlex
    rw [lexL_eq] at hlex
    have h1 := skip_le l
    have hss := skip_suffix l
    have hsk : skip (skip l) = skip l := skip_skip _ _ (Nat.lt_succ_self _)
    cases hs : skip l with
    | nil =>
      rw [hs] at hlex
      cases hlex
      simp
    | cons c r =>
      rw [hs] at hlex h1 hss hsk
      simp only [List.length_cons] at h1
      have h2 := wordS_len c r
      have hws := wordS_suffix (c :: r)
      simp only at hlex
      cases ha : ansK (wordS (c :: r)).1 with
      | mk kd p =>
        obtain ⟨t, ok⟩ := p
        rw [ha] at h2 hlex
        cases ok with
        | false => cases hlex
        | true =>
          have h2 := h2 rfl
          simp only at hlex
          cases hr : lexL bs.length (wordS (c :: r)).2 with
          | none => rw [hr] at hlex; cases hlex
          | some rest =>
            rw [hr] at hlex
            simp only [Option.map_some, Option.some.injEq] at hlex
            subst hlex
            have hcr : c :: r <:+ bs := hss.trans hsuf
            have hcl := hcr.length_le
            simp only [List.length_cons] at hcl
            obtain ⟨p1, p2, p3⟩ := lexL_places n (wordS (c :: r)).2 rest (by omega) (hws.trans hcr) hr
            have hdrop : bs.drop (bs.length - (r.length + 1)) = c :: r := by
              have := List.suffix_iff_eq_drop.1 hcr
              simpa using this.symm
            refine ⟨?_, ?_, ?_⟩
            · intro w hw
              cases hw
              show _ ≤ bs.length - (r.length + 1)
              omega
            · intro i w hw
              cases i with
              | zero =>
                cases hw
                refine ⟨by show bs.length - (r.length + 1) < _; omega, ?_⟩
                show lexL bs.length (bs.drop (bs.length - (r.length + 1))) = _
                rw [hdrop, List.drop_zero, ← hlex0]
                rw [lexL_eq, lexL_eq _ l, hsk, hs]
              | succ i => exact p2 i w hw
            · intro i v w hv hw
              cases i with
              | zero =>
                cases hv
                have := p1 w hw
                show bs.length - (r.length + 1) < _
                omega
              | succ i => exact p3 i v w hv hw

theorem places_ge {bs : List UInt8} {ws : List Wd} (h : lexL bs.length bs = some ws) : ∀ (i : Nat) (w : Wd), ws[i]? = some w → i ≤ w.at_
  | 0, _, _ => Nat.zero_le _
  | i + 1, w, hw => by
    obtain ⟨_, _, p3⟩ := lexL_places (bs.length + 1) bs ws (Nat.lt_succ_self _) (List.suffix_refl _) h
    have hi : i < ws.length := by
      have := (List.getElem?_eq_some_iff.1 hw).1
      omega
    have hv : ws[i]? = some ws[i] := List.getElem?_eq_getElem hi
    have h1 := places_ge h i _ hv
    have h2 := p3 i _ w hv hw
    omega

theorem places_len {bs : List UInt8} {ws : List Wd} (h : lexL bs.length bs = some ws) : ws.length ≤ bs.length := by
  cases hn : ws.length with
  | zero => omega
  | succ n =>
    have hv : ws[n]? = some ws[n] := List.getElem?_eq_getElem (by omega)
    have h1 := places_ge h n _ hv
    obtain ⟨_, p2, _⟩ := lexL_places (bs.length + 1) bs ws (Nat.lt_succ_self _) (List.suffix_refl _) h
    have := (p2 n _ hv).1
    omega

theorem places_le {bs : List UInt8} {ws : List Wd} (h : lexL bs.length bs = some ws) : ∀ (j i : Nat) (v w : Wd), ws[i]? = some v → ws[i + j]? = some w → v.at_ ≤ w.at_
  | 0, i, v, w, hv, hw => by
    rw [Nat.add_zero, hv] at hw
    cases hw
    exact Nat.le_refl _
  | j + 1, i, v, w, hv, hw => by
    obtain ⟨_, _, p3⟩ := lexL_places (bs.length + 1) bs ws (Nat.lt_succ_self _) (List.suffix_refl _) h
    have hi : i + j < ws.length := by
      have := (List.getElem?_eq_some_iff.1 hw).1
      omega
    have hu : ws[i + j]? = some ws[i + j] := List.getElem?_eq_getElem hi
    have h1 := places_le h j i v _ hv hu
    have h2 := p3 (i + j) _ w hu hw
    omega

def shW (k : Nat) (w : Wd) : Wd := ⟨w.kind, w.text, w.at_ - k⟩

/-- The same words, counted from further on. -/
theorem lexL_shift {N M : Nat} (hM : M ≤ N) : ∀ (n : Nat) (l : List UInt8), l.length < n → l.length ≤ M → lexL M l = (lexL N l).map (List.map (shW (N - M)))
  | 0, _, h, _ => by omega
  | n + 1, l, h, hl => by
    rw [lexL_eq, lexL_eq N l]
    have h1 := skip_le l
    cases hs : skip l with
    | nil => rfl
    | cons c r =>
      rw [hs] at h1
      simp only [List.length_cons] at h1
      have h2 := wordS_len c r
      simp only
      cases ha : ansK (wordS (c :: r)).1 with
      | mk kd p =>
        obtain ⟨t, ok⟩ := p
        rw [ha] at h2
        cases ok with
        | false => rfl
        | true =>
          have h2 := h2 rfl
          simp only
          rw [lexL_shift hM n _ (by omega) (by omega)]
          cases lexL N (wordS (c :: r)).2 with
          | none => rfl
          | some ws =>
            simp only [Option.map_some, List.map_cons, shW]
            rw [show N - (r.length + 1) - (N - M) = M - (r.length + 1) by omega]

theorem all_some {bs : List UInt8} (hb : bs.length ≤ 65536) {ws : List Wd} (h : lexL bs.length bs = some ws) : allS bs = (ws, 0) := by
  unfold allS
  rw [if_neg (by omega), h]
theorem all_none {bs : List UInt8} (hb : bs.length ≤ 65536) (h : lexL bs.length bs = none) : allS bs = ([], 2) := by
  unfold allS
  rw [if_neg (by omega), h]

/-- From a word's place on, the same words are read. -/
theorem all_from {bs : List UInt8} (hb : bs.length ≤ 65536) {ws : List Wd} (h : lexL bs.length bs = some ws) {i : Nat} {w : Wd} (hw : ws[i]? = some w) :
    allS (bs.drop w.at_) = ((ws.drop i).map (shW w.at_), 0) := by
  obtain ⟨_, p2, _⟩ := lexL_places (bs.length + 1) bs ws (Nat.lt_succ_self _) (List.suffix_refl _) h
  obtain ⟨h1, h2⟩ := p2 i w hw
  refine all_some (by rw [List.length_drop]; omega) ?_
  rw [lexL_shift (N := bs.length) (by rw [List.length_drop]; omega) ((bs.drop w.at_).length + 1) _ (Nat.lt_succ_self _) (Nat.le_refl _), h2]
  rw [show bs.length - (bs.drop w.at_).length = w.at_ by rw [List.length_drop]; omega]
  rfl
end Go.Proofs.YthnkmebnigefaaaDoor
