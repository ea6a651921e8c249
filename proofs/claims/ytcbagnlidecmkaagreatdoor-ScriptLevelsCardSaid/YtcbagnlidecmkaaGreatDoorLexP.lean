/-
  The words of a text as pure lists: the plain law. No conditions beyond the lemmas' own hypotheses.
-/
import Derived.Test.YtcbagnlidecmkaaGreatDoorAbsThree
set_option linter.unusedSimpArgs false
set_option linter.unnecessarySimpa false
set_option linter.unusedVariables false
set_option linter.constructorNameAsVariable false

/-
 lex: what words are, and texts of words: the plain law.
-/
namespace Go.Lex
open Go Go.Abs
set_option maxRecDepth 20000
def isDigit (b : UInt8) : Bool := decide ((48 : Int) ≤ b.toNat) && decide ((b.toNat : Int) ≤ 57)
def signs : List UInt8 := [126, 33, 64, 36, 37, 94, 38, 42, 95, 45, 43, 61, 60, 62, 46, 63, 47]
def isSign (b : UInt8) : Bool := isDigit b || (decide ((97 : Int) ≤ b.toNat) && decide ((b.toNat : Int) ≤ 122)) || (decide ((65 : Int) ≤ b.toNat) && decide ((b.toNat : Int) ≤ 90)) || signs.contains b
def isBlank (b : UInt8) : Bool := [32, 9, 10, 13].contains b
def isInner (b : UInt8) : Bool := (decide ((32 : Int) < b.toNat) && ((b.toNat : Int) != 127)) || isBlank b
abbrev b8 (b : UInt8) : PVal := .int .u8 b.toNat
def isNoBreak (b : UInt8) : Bool := ((b.toNat : Int) != 10) && ((b.toNat : Int) != 13)
def isInText (b : UInt8) : Bool := ((b.toNat : Int) != 34) && isInner b
def isInBars (b : UInt8) : Bool := ((b.toNat : Int) != 124) && ((b.toNat : Int) != 92) && isInner b
theorem u8_ne {a b : UInt8} (h : a ≠ b) : ¬ (a.toNat : Int) = b.toNat := fun e => h (by rw [← UInt8.toNat_inj]; omega)
theorem u8_beq (a b : UInt8) : ((a.toNat : Int) == (b.toNat : Int)) = (a == b) := by
 by_cases h : a = b
 ·subst h; simp
 ·have h1 : (a == b) = false := by simpa using h
  have h2 : ((a.toNat : Int) == (b.toNat : Int)) = false := by simpa using u8_ne h
  rw [h1, h2]
theorem u8_bne (a b : UInt8) : ((a.toNat : Int) != (b.toNat : Int)) = (a != b) := by
 simp only [bne, u8_beq]
def isPlain (s : List UInt8) : Bool := s.all isSign && (match s with | [] => false | b :: _ => !isDigit b)
def isPrints (b : UInt8) : Bool := (decide ((33 : Int) ≤ b.toNat) && decide ((b.toNat : Int) ≤ 126)) || decide ((128 : Int) ≤ b.toNat) || isBlank b
theorem prints_inner (b : UInt8) : isPrints b = isInner b := by
 have hb : b.toNat < 256 := UInt8.toNat_lt b
 unfold isPrints isInner
 cases isBlank b
 ·simp only [Bool.or_false]
  rw [Bool.eq_iff_iff]
  simp
  omega
 ·simp
def decB : List PVal → Option (List UInt8)
 | [] => some []
 | .int .u8 n :: r => if 0 ≤ n ∧ n < 256 then (match decB r with | some bs => some (UInt8.ofNat n.toNat :: bs) | none => none) else none
 | _ :: _ => none
theorem decB_map : ∀ bs : List UInt8, decB (bs.map b8) = some bs
 | [] => rfl
 | b :: bs => by
  have : b.toNat < 256 := UInt8.toNat_lt b
  have h : (0 : Int) ≤ b.toNat ∧ (b.toNat : Int) < 256 := by omega
  simp only [List.map_cons, decB, b8, if_pos h]
  rw [show List.map b8 bs = bs.map b8 from rfl, decB_map bs]
  simp
theorem decB_some : ∀ {l : List PVal} {bs : List UInt8}, decB l = some bs → l = bs.map b8
 | [], bs, h => by simp [decB] at h; subst h; rfl
 | x :: r, bs, h => by
  unfold decB at h
  split at h
  ·cases r <;> simp_all
  ·rename_i n r' heq
   cases heq
   split at h
   ·rename_i hn
    cases hd : decB r with
    | none => rw [hd] at h; cases h
    | some bs' =>
     rw [hd] at h
     cases h
     rw [decB_some hd]
     obtain ⟨m, rfl⟩ := Int.eq_ofNat_of_zero_le hn.1
     have hm : m < 256 := by omega
     simp [b8, UInt8.toNat_ofNat', Nat.mod_eq_of_lt hm]
   ·cases h
  ·cases h
theorem bytesOf_map : ∀ l : List UInt8, bytesOf (l.map fun b => .p (b8 b)) = some l
 | [] => rfl
 | b :: l => by simp [bytesOf, bytesOf_map l]
theorem bytesOf_map2 (l : List UInt8) : bytesOf (l.map (AVal.p ∘ b8)) = some l := bytesOf_map l
theorem sizeOk_map (l : List UInt8) : sizeOk 1 (l.map b8) = true := by simp [sizeOk]
def skipN : Nat → List UInt8 → List UInt8
 | 0, l => l
 | n + 1, l => match l.dropWhile isBlank with
  | [] => []
  | b :: r => if b = 59 then skipN n ((b :: r).dropWhile isNoBreak) else b :: r
def skip (l : List UInt8) : List UInt8 := skipN (l.length + 1) l
theorem dropWhile_le {α : Type} (p : α → Bool) (l : List α) : (l.dropWhile p).length ≤ l.length := (List.dropWhile_suffix p).length_le
theorem skipN_eq : ∀ (n m : Nat) (l : List UInt8), l.length < n → l.length < m → skipN n l = skipN m l
 | 0, _, _, h, _ => by omega
 | _, 0, _, _, h => by omega
 | n + 1, m + 1, l, hn, hm => by
  simp only [skipN]
  have h1 := dropWhile_le isBlank l
  cases hd : l.dropWhile isBlank with
  | nil => rfl
  | cons b r =>
   simp only
   split
   ·rename_i hb
    subst hb
    rw [hd] at h1
    have h2 : ((59 :: r : List UInt8).dropWhile isNoBreak).length ≤ r.length := by
     rw [List.dropWhile_cons, show isNoBreak 59 = true from by decide]
     exact dropWhile_le _ _
    simp only [List.length_cons] at h1
    exact skipN_eq n m _ (by omega) (by omega)
   ·rfl
theorem skip_eq (l : List UInt8) : skip l = match l.dropWhile isBlank with
  | [] => []
  | b :: r => if b = 59 then skip ((b :: r).dropWhile isNoBreak) else b :: r := by
 unfold skip
 rw [skipN]
 have h1 := dropWhile_le isBlank l
 cases hd : l.dropWhile isBlank with
 | nil => rfl
 | cons b r =>
  simp only
  split
  ·rename_i hb
   subst hb
   rw [hd] at h1
   have h2 : ((59 :: r : List UInt8).dropWhile isNoBreak).length ≤ r.length := by
    rw [List.dropWhile_cons, show isNoBreak 59 = true from by decide]
    exact dropWhile_le _ _
   simp only [List.length_cons] at h1
   exact skipN_eq _ _ _ (by omega) (by omega)
  ·rfl
def resWords : List (List UInt8) := [[116, 114, 117, 101], [102, 97, 108, 115, 101], [110, 111, 116], [97, 110, 100], [111, 114], [61, 62], [120, 111, 114], [61], [100, 105, 115, 116, 105, 110, 99, 116], [105, 116, 101], [108, 101, 116], [43], [45], [42], [47], [60, 61], [60], [62, 61], [62], [66, 111, 111, 108], [82, 101, 97, 108], [95], [33], [97, 115], [101, 120, 105, 115, 116, 115], [102, 111, 114, 97, 108, 108], [112, 97, 114]]
def isRes (s : List UInt8) : Bool := resWords.contains s
theorem tw_dw {α : Type} (p : α → Bool) (l : List α) : (l.takeWhile p).length + (l.dropWhile p).length = l.length := by
 have := congrArg List.length (List.takeWhile_append_dropWhile (p := p) (l := l))
 rwa [List.length_append] at this
theorem drop_tw {α : Type} (p : α → Bool) (bs : List α) (i : Nat) : bs.drop (i + ((bs.drop i).takeWhile p).length) = (bs.drop i).dropWhile p := by
 rw [← List.drop_drop]
 generalize bs.drop i = l
 induction l with
 | nil => rfl
 | cons a l ih =>
  rw [List.takeWhile_cons, List.dropWhile_cons]
  split
  ·simpa using ih
  ·rfl
theorem drop_cons_at {α : Type} {bs : List α} {n : Nat} {e : α} {q : List α} (h : bs.drop n = e :: q) : n < bs.length ∧ bs[n]? = some e ∧ bs.drop (n + 1) = q ∧ bs.length = n + 1 + q.length := by
 have hl : (bs.drop n).length = q.length + 1 := by rw [h]; rfl
 have hn : n < bs.length := by simp at hl; omega
 have h2 := List.drop_eq_getElem_cons hn
 rw [h] at h2
 cases h2
 exact ⟨hn, by simp [hn], rfl, by rw [List.length_drop] at hl ⊢; omega⟩
theorem drop_nil_at {α : Type} {bs : List α} {n : Nat} (h : bs.drop n = []) : bs.length ≤ n := by simpa using h
def wordV (kind : Int) (text : List UInt8) (at_ : Int) : PVal := .agg [.int .i64 kind, .str text, .int .i64 at_]
def quoS (l : List UInt8) : PVal × List UInt8 := match (l.drop 1).dropWhile isInBars with
 | [] => (.tup [wordV 0 [] 0, .bool false], [])
 | c :: r => if c = 124 then (.tup [wordV 3 ((l.drop 1).takeWhile isInBars) 0, .bool true], r) else (.tup [wordV 0 [] 0, .bool false], c :: r)
def endOk : List UInt8 → Bool
 | [] => true
 | e :: _ => !isSign e
def numOk (d : List UInt8) : Bool := d == [48] || (match d with | c :: _ => ((c.toNat : Int) != 48) | [] => false)
def numS (l : List UInt8) : PVal × List UInt8 :=
 let d := l.takeWhile isDigit
 match l.dropWhile isDigit with
 | a :: b :: r => if a = 46 ∧ isDigit b = true then
   (.tup [wordV 6 (d ++ [46] ++ (b :: r).takeWhile isDigit) 0, .bool (numOk d && endOk ((b :: r).dropWhile isDigit))], (b :: r).dropWhile isDigit)
  else (.tup [wordV 5 d 0, .bool (numOk d && endOk (a :: b :: r))], a :: b :: r)
 | r => (.tup [wordV 5 d 0, .bool (numOk d && endOk r)], r)
def textS : List UInt8 → Option (List UInt8) × List UInt8
 | [] => (none, [])
 | [c] => if c = 34 then (some [], []) else if isInner c = true then (none, []) else (none, [c])
 | c :: d :: r => if c = 34 then (if d = 34 then ((textS r).1.map (34 :: ·), (textS r).2) else (some [], d :: r))
  else if isInner c = true then ((textS (d :: r)).1.map (c :: ·), (textS (d :: r)).2) else (none, c :: d :: r)
theorem inText_ne {c : UInt8} (h : isInText c = true) : c ≠ 34 ∧ isInner c = true := by
 unfold isInText at h
 simp only [Bool.and_eq_true] at h
 refine ⟨?_, h.2⟩
 rintro rfl
 simp at h
theorem textS_in {c : UInt8} (h : isInText c = true) (l : List UInt8) : textS (c :: l) = ((textS l).1.map (c :: ·), (textS l).2) := by
 obtain ⟨h1, h2⟩ := inText_ne h
 cases l with
 | nil => simp [textS, h1, h2]
 | cons d r => rw [textS, if_neg h1, if_pos h2]
def texS (l : List UInt8) : PVal × List UInt8 := match textS (l.drop 1) with
 | (some t, q) => (.tup [wordV 7 t 0, .bool true], q)
 | (none, q) => (.tup [wordV 0 [] 0, .bool false], q)
theorem textS_len : ∀ l : List UInt8, (textS l).2.length ≤ l.length
 | [] => by simp [textS]
 | [c] => by
  simp only [textS]
  split
  ·simp
  ·split <;> simp
 | c :: d :: r => by
  have h1 := textS_len r
  have h2 := textS_len (d :: r)
  simp only [textS]
  split
  ·split
   ·simp; omega
   ·simp
  ·split
   ·simp at h2 ⊢; omega
   ·simp
theorem u8_bne34 (c : UInt8) : ((c.toNat : Int) != 34) = (c != 34) := by rw [show (34 : Int) = ((34 : UInt8).toNat : Int) from rfl, u8_bne]
def IsAns (x : PVal) : Prop := ∃ kd t ok, x = .tup [wordV kd t 0, .bool ok]
theorem texS_ans (l : List UInt8) : IsAns (texS l).1 := by
 unfold texS
 split <;> exact ⟨_, _, _, rfl⟩
theorem quoS_ans (l : List UInt8) : IsAns (quoS l).1 := by
 unfold quoS
 split
 ·exact ⟨_, _, _, rfl⟩
 ·split <;> exact ⟨_, _, _, rfl⟩
theorem numS_ans (l : List UInt8) : IsAns (numS l).1 := by
 unfold numS
 simp only
 split
 ·split <;> exact ⟨_, _, _, rfl⟩
 ·exact ⟨_, _, _, rfl⟩
def wordS : List UInt8 → PVal × List UInt8
 | [] => (.tup [wordV 0 [] 0, .bool false], [])
 | c :: r => if c = 40 then (.tup [wordV 1 [] 0, .bool true], r)
  else if c = 41 then (.tup [wordV 2 [] 0, .bool true], r)
  else if c = 34 then texS (c :: r)
  else if c = 124 then quoS (c :: r)
  else if c = 58 then (.tup [wordV 4 (r.takeWhile isSign) 0, .bool (!(r.takeWhile isSign == []))], r.dropWhile isSign)
  else if isDigit c = true then numS (c :: r)
  else (.tup [wordV 3 ((c :: r).takeWhile isSign) 0, .bool (!((c :: r).takeWhile isSign == []))], (c :: r).dropWhile isSign)
theorem mapO_p (H : Heap) (n : Nat) : ∀ l : List PVal, mapO (resolveV H n) (l.map .p) = some l
 | [] => rfl
 | x :: l => by
  have : resolveV H n (.p x) = some x := by cases n <;> rfl
  simp only [List.map_cons, mapO, this, mapO_p H n l]
structure Wd where
 kind : Int
 text : List UInt8
 at_ : Nat
def Wd.v (w : Wd) : PVal := wordV w.kind w.text w.at_
def ansK : PVal → Int × List UInt8 × Bool
 | .tup [.agg [.int .i64 kd, .str t, _], .bool ok] => (kd, t, ok)
 | _ => (0, [], false)
theorem dropWhile_lt {p : UInt8 → Bool} {l : List UInt8} (h : l.takeWhile p ≠ []) : (l.dropWhile p).length < l.length := by
 have := tw_dw p l
 have h2 : 0 < (l.takeWhile p).length := List.length_pos_iff.2 h
 omega
theorem wordS_len (c : UInt8) (r : List UInt8) (h : (ansK (wordS (c :: r)).1).2.2 = true) : (wordS (c :: r)).2.length ≤ r.length := by
 simp only [wordS] at h ⊢
 by_cases h40 : c = 40
 ·simp [h40]
 rw [if_neg h40] at h ⊢
 by_cases h41 : c = 41
 ·simp [h41]
 rw [if_neg h41] at h ⊢
 by_cases h34 : c = 34
 ·subst h34
  rw [if_pos rfl]
  have := textS_len r
  unfold texS
  simp only [List.drop_succ_cons, List.drop_zero]
  split <;> (rename_i q hq; rw [hq] at this; exact this)
 rw [if_neg h34] at h ⊢
 by_cases h124 : c = 124
 ·subst h124
  rw [if_pos rfl]
  have := dropWhile_le isInBars r
  unfold quoS
  simp only [List.drop_succ_cons, List.drop_zero]
  split
  ·simp
  ·rename_i d q hq
   rw [hq] at this
   simp only [List.length_cons] at this
   split
   ·show q.length ≤ _; omega
   ·exact this
 rw [if_neg h124] at h ⊢
 by_cases h58 : c = 58
 ·rw [if_pos h58]
  exact dropWhile_le isSign r
 rw [if_neg h58] at h ⊢
 cases hdc : isDigit c with
 | true =>
  rw [if_pos rfl]
  have h1 : ((c :: r).dropWhile isDigit).length ≤ r.length := by
   rw [List.dropWhile_cons, if_pos hdc]; exact dropWhile_le isDigit r
  unfold numS
  simp only
  split
  ·rename_i a b q hq
   rw [hq] at h1
   simp only [List.length_cons] at h1
   split
   ·have := dropWhile_le isDigit (b :: q)
    simp only [List.length_cons] at this
    show ((b :: q).dropWhile isDigit).length ≤ _
    omega
   ·exact h1
  ·exact h1
 | false =>
  rw [if_neg (by simp [hdc])]
  rw [if_neg (by simp [hdc])] at h
  simp only
  have h2 : (c :: r).takeWhile isSign ≠ [] := by
   intro e
   rw [e] at h
   simp [ansK, wordV] at h
  have := dropWhile_lt h2
  simp only [List.length_cons] at this
  omega
def lexN (N : Nat) : Nat → List UInt8 → Option (List Wd)
 | 0, _ => none
 | f + 1, l => match skip l with
  | [] => some []
  | c :: r => match ansK (wordS (c :: r)).1 with
   | (kd, t, true) => (lexN N f (wordS (c :: r)).2).map (⟨kd, t, N - (r.length + 1)⟩ :: ·)
   | _ => none
theorem skip_le (l : List UInt8) : (skip l).length ≤ l.length := by
 have : ∀ n l, (skipN n l).length ≤ l.length := by
  intro n
  induction n with
  | zero => intro l; exact Nat.le_refl _
  | succ n ih =>
   intro l
   simp only [skipN]
   have h1 := dropWhile_le isBlank l
   cases hd : l.dropWhile isBlank with
   | nil => simp
   | cons b r =>
    rw [hd] at h1
    simp only
    split
    ·have h2 := ih ((b :: r).dropWhile isNoBreak)
     have h3 := dropWhile_le isNoBreak (b :: r)
     omega
    ·exact h1
 exact this _ l
theorem lexN_eq (N : Nat) : ∀ (n m : Nat) (l : List UInt8), l.length < n → l.length < m → lexN N n l = lexN N m l
 | 0, _, _, h, _ => by omega
 | _, 0, _, _, h => by omega
 | n + 1, m + 1, l, hn, hm => by
  simp only [lexN]
  have h1 := skip_le l
  cases hs : skip l with
  | nil => rfl
  | cons c r =>
   rw [hs] at h1
   simp only [List.length_cons] at h1
   have h2 := wordS_len c r
   cases ha : ansK (wordS (c :: r)).1 with
   | mk kd p =>
    obtain ⟨t, ok⟩ := p
    rw [ha] at h2
    cases ok with
    | false => simp only [ha]
    | true =>
     have h2 := h2 rfl
     simp only [ha]
     rw [lexN_eq N n m _ (by omega) (by omega)]
def lexL (N : Nat) (l : List UInt8) : Option (List Wd) := lexN N (l.length + 1) l
theorem lexL_eq (N : Nat) (l : List UInt8) : lexL N l = match skip l with
  | [] => some []
  | c :: r => match ansK (wordS (c :: r)).1 with
   | (kd, t, true) => (lexL N (wordS (c :: r)).2).map (⟨kd, t, N - (r.length + 1)⟩ :: ·)
   | _ => none := by
 unfold lexL
 rw [lexN]
 have h1 := skip_le l
 cases hs : skip l with
 | nil => rfl
 | cons c r =>
  rw [hs] at h1
  simp only [List.length_cons] at h1
  have h2 := wordS_len c r
  cases ha : ansK (wordS (c :: r)).1 with
  | mk kd p =>
   obtain ⟨t, ok⟩ := p
   rw [ha] at h2
   cases ok with
   | false => simp only [ha]
   | true =>
    have h2 := h2 rfl
    simp only [ha]
    rw [lexN_eq N l.length ((wordS (c :: r)).2.length + 1) _ (by omega) (by omega)]
theorem textS_suffix : ∀ l : List UInt8, (textS l).2 <:+ l
 | [] => by simp [textS]
 | [c] => by
  simp only [textS]
  split
  ·exact List.nil_suffix
  ·split
   ·exact List.nil_suffix
   ·exact List.suffix_refl _
 | c :: d :: r => by
  have h1 := textS_suffix r
  have h2 := textS_suffix (d :: r)
  simp only [textS]
  split
  ·split
   ·exact h1.trans ((List.suffix_cons d r).trans (List.suffix_cons c _))
   ·exact List.suffix_cons c _
  ·split
   ·exact h2.trans (List.suffix_cons c _)
   ·exact List.suffix_refl _
theorem wordS_suffix (l : List UInt8) : (wordS l).2 <:+ l := by
 cases l with
 | nil => exact List.suffix_refl _
 | cons c r =>
  simp only [wordS]
  split
  ·exact List.suffix_cons c r
  split
  ·exact List.suffix_cons c r
  split
  ·unfold texS
   have := (textS_suffix r).trans (List.suffix_cons c r)
   simp only [List.drop_succ_cons, List.drop_zero]
   split <;> (rename_i q hq; rw [hq] at this; exact this)
  split
  ·unfold quoS
   simp only [List.drop_succ_cons, List.drop_zero]
   have := (List.dropWhile_suffix isInBars (l := r)).trans (List.suffix_cons c r)
   split
   ·exact List.nil_suffix
   ·rename_i d q hq
    rw [hq] at this
    split
    ·exact (List.suffix_cons d q).trans this
    ·exact this
  split
  ·exact (List.dropWhile_suffix isSign).trans (List.suffix_cons c r)
  split
  ·unfold numS
   simp only
   have h1 := List.dropWhile_suffix isDigit (l := c :: r)
   split
   ·rename_i a b q hq
    rw [hq] at h1
    split
    ·exact (List.dropWhile_suffix isDigit).trans ((List.suffix_cons a _).trans h1)
    ·exact h1
   ·exact h1
  ·exact List.dropWhile_suffix isSign
theorem drop_suffix_len {α : Type} {q l : List α} (h : q <:+ l) : l.drop (l.length - q.length) = q := (List.suffix_iff_eq_drop.1 h).symm
theorem dropWhile_none {p : UInt8 → Bool} {c : UInt8} {r : List UInt8} (h : p c = false) : (c :: r).dropWhile p = c :: r := by rw [List.dropWhile_cons, h]; rfl
def allS (bs : List UInt8) : List Wd × Int := if 65536 < bs.length then ([], 4) else match lexL bs.length bs with
 | some ws => (ws, 0)
 | none => ([], 2)
def sAll : List PVal → Option PVal
 | [.lst es] => match decB es with
  | some bs => some (.tup [.lst ((allS bs).1.map Wd.v), .int .i64 (allS bs).2])
  | none => none
 | _ => none
theorem skip_blank {c : UInt8} (h : isBlank c = true) (r : List UInt8) : skip (c :: r) = skip r := by
 rw [skip_eq, skip_eq r, List.dropWhile_cons, if_pos h]
theorem skip_note (r : List UInt8) : skip (59 :: r) = skip ((59 :: r).dropWhile isNoBreak) := by
 conv => lhs; rw [skip_eq]
 rw [dropWhile_none (show isBlank 59 = false by decide)]
 simp
theorem skip_word {c : UInt8} (h : isBlank c = false) (h2 : c ≠ 59) (r : List UInt8) : skip (c :: r) = c :: r := by
 rw [skip_eq, dropWhile_none h]
 simp [h2]
theorem lexL_skip {N : Nat} {l l' : List UInt8} (h : skip l = skip l') : lexL N l = lexL N l' := by
 rw [lexL_eq, lexL_eq N l', h]
def quoteS (s : List UInt8) : Option (List UInt8) := if (isPlain s && !isRes s) = true then some s else if s.all isInBars = true then some (124 :: (s ++ [124])) else none
def dbl : List UInt8 → List UInt8
 | [] => []
 | c :: r => if c = 34 then 34 :: 34 :: dbl r else c :: dbl r
theorem dbl_len : ∀ l : List UInt8, (dbl l).length ≤ 2 * l.length
 | [] => by simp [dbl]
 | c :: r => by
  have := dbl_len r
  simp only [dbl]
  split <;> simp <;> omega
theorem textS_char {c : UInt8} (h1 : c ≠ 34) (h2 : isInner c = true) (l : List UInt8) : textS (c :: l) = ((textS l).1.map (c :: ·), (textS l).2) := by
 refine textS_in ?_ l
 unfold isInText
 rw [u8_bne34, h2]
 simpa using h1
theorem textS_dbl : ∀ (s l : List UInt8), s.all isInner = true → textS (dbl s ++ l) = ((textS l).1.map (s ++ ·), (textS l).2)
 | [], l, _ => by simp [dbl]
 | c :: s, l, h => by
  simp only [List.all_cons, Bool.and_eq_true] at h
  have ih := textS_dbl s l h.2
  simp only [dbl]
  by_cases hc : c = 34
  ·subst hc
   rw [if_pos rfl]
   simp only [List.cons_append, textS, if_true, ih]
   simp only [Option.map_map]
   rfl
  ·rw [if_neg hc]
   rw [List.cons_append, textS_char hc h.1, ih]
   simp only [Option.map_map]
   rfl
theorem dw_app {p : UInt8 → Bool} {s : UInt8} (hs : p s = false) (b : List UInt8) : ∀ l : List UInt8, (l ++ s :: b).dropWhile p = l.dropWhile p ++ s :: b
 | [] => by simp [List.dropWhile_cons, hs]
 | c :: l => by
  rw [List.cons_append, List.dropWhile_cons, List.dropWhile_cons, dw_app hs b l]
  split <;> rfl
theorem tk_app {p : UInt8 → Bool} {s : UInt8} (hs : p s = false) (b : List UInt8) : ∀ l : List UInt8, (l ++ s :: b).takeWhile p = l.takeWhile p
 | [] => by simp [List.takeWhile_cons, hs]
 | c :: l => by
  rw [List.cons_append, List.takeWhile_cons, List.takeWhile_cons, tk_app hs b l]
theorem endOk_app {s : UInt8} (hs : isSign s = false) (b : List UInt8) : ∀ l : List UInt8, endOk (l ++ s :: b) = endOk l
 | [] => by simp [endOk, hs]
 | _ :: _ => rfl
theorem textS_app {s : UInt8} (hs : s ≠ 34) (b : List UInt8) : ∀ (l x : List UInt8), (textS l).1 = some x → textS (l ++ s :: b) = (some x, (textS l).2 ++ s :: b)
 | [], x, h => by simp [textS] at h
 | [c], x, h => by
  simp only [textS] at h
  by_cases hc : c = 34
  ·rw [if_pos hc] at h
   simp only [Option.some.injEq] at h
   subst h
   simp [textS, hc, hs]
  ·rw [if_neg hc] at h
   split at h <;> cases h
 | c :: d :: r, x, h => by
  simp only [textS] at h
  simp only [List.cons_append, textS]
  by_cases hc : c = 34
  ·rw [if_pos hc] at h ⊢
   rw [if_pos hc]
   by_cases hd : d = 34
   ·rw [if_pos hd] at h ⊢
    rw [if_pos hd]
    simp only at h
    cases hx : (textS r).1 with
    | none => rw [hx] at h; cases h
    | some y =>
     rw [hx] at h
     rw [textS_app hs b r y hx]
     simp only at h ⊢
     rw [← h]
   ·rw [if_neg hd] at h ⊢
    rw [if_neg hd]
    simp only at h
    rw [← h]
    rfl
  ·rw [if_neg hc] at h ⊢
   rw [if_neg hc]
   cases hi : isInner c with
   | false => rw [hi] at h; simp at h
   | true =>
    rw [hi] at h
    simp only [if_true] at h ⊢
    cases hx : (textS (d :: r)).1 with
    | none => rw [hx] at h; cases h
    | some y =>
     rw [hx] at h
     have := textS_app hs b (d :: r) y hx
     rw [List.cons_append] at this
     rw [this]
     simp only at h ⊢
     rw [← h]
theorem digit_sign {s : UInt8} (h : isSign s = false) : isDigit s = false := by
 unfold isSign at h
 cases hd : isDigit s with
 | false => rfl
 | true => rw [hd] at h; simp at h
theorem numS_app {s : UInt8} (hs : isSign s = false) (b l : List UInt8) : numS (l ++ s :: b) = ((numS l).1, (numS l).2 ++ s :: b) := by
 have hd := digit_sign hs
 have h46 : s ≠ 46 := by
  rintro rfl
  exact absurd hs (by decide)
 unfold numS
 simp only
 rw [dw_app hd, tk_app hd]
 match hl : l.dropWhile isDigit with
 | [] =>
  rw [List.nil_append]
  cases b with
  | nil => simp [endOk, hs]
  | cons b0 b => simp [h46, endOk, hs]
 | [a] => simp [hd, endOk]
 | a :: d :: r =>
  simp only [List.cons_append]
  split
  ·rw [← List.cons_append, tk_app hd, dw_app hd, endOk_app hs]
  ·rfl
theorem wordS_app {s : UInt8} (hs : isSign s = false) (h34 : s ≠ 34) (b : List UInt8) {c : UInt8} {r : List UInt8} (h : (ansK (wordS (c :: r)).1).2.2 = true) :
  wordS (c :: (r ++ s :: b)) = ((wordS (c :: r)).1, (wordS (c :: r)).2 ++ s :: b) := by
 simp only [wordS] at h ⊢
 by_cases h40 : c = 40
 ·simp [h40]
 rw [if_neg h40] at h
 rw [if_neg h40, if_neg h40]
 by_cases h41 : c = 41
 ·simp [h41]
 rw [if_neg h41] at h
 rw [if_neg h41, if_neg h41]
 by_cases hq : c = 34
 ·rw [if_pos hq] at h
  rw [if_pos hq, if_pos hq]
  unfold texS at h ⊢
  simp only [List.drop_succ_cons, List.drop_zero] at h ⊢
  cases ht : (textS r).1 with
  | none =>
   cases hr : textS r with
   | mk o q =>
    rw [hr] at ht h
    simp only at ht
    subst ht
    simp [ansK, wordV] at h
  | some x =>
   rw [textS_app h34 b r x ht]
   cases hr : textS r with
   | mk o q =>
    rw [hr] at ht
    simp only at ht
    subst ht
    rfl
 rw [if_neg hq] at h
 rw [if_neg hq, if_neg hq]
 by_cases h124 : c = 124
 ·rw [if_pos h124] at h
  rw [if_pos h124, if_pos h124]
  unfold quoS at h ⊢
  simp only [List.drop_succ_cons, List.drop_zero] at h ⊢
  have key : ∀ l : List UInt8, (∃ q, l.dropWhile isInBars = 124 :: q) → (l ++ s :: b).takeWhile isInBars = l.takeWhile isInBars ∧ (l ++ s :: b).dropWhile isInBars = l.dropWhile isInBars ++ s :: b := by
   intro l
   induction l with
   | nil => rintro ⟨q, hq⟩; simp at hq
   | cons e l ih =>
    rintro ⟨q, hq⟩
    rw [List.cons_append, List.dropWhile_cons, List.takeWhile_cons, List.dropWhile_cons, List.takeWhile_cons]
    rw [List.dropWhile_cons] at hq
    split
    ·rename_i he
     rw [if_pos he] at hq
     obtain ⟨i1, i2⟩ := ih ⟨q, hq⟩
     exact ⟨by rw [i1], i2⟩
    ·exact ⟨rfl, rfl⟩
  cases hd : r.dropWhile isInBars with
  | nil => rw [hd] at h; simp [ansK, wordV] at h
  | cons e q =>
   rw [hd] at h
   by_cases he : e = 124
   ·subst he
    obtain ⟨k1, k2⟩ := key r ⟨q, hd⟩
    rw [k1, k2, hd]
    simp
   ·simp [he, ansK, wordV] at h
 rw [if_neg h124] at h
 rw [if_neg h124, if_neg h124]
 by_cases h58 : c = 58
 ·rw [if_pos h58, if_pos h58, tk_app hs, dw_app hs]
 rw [if_neg h58] at h
 rw [if_neg h58, if_neg h58]
 cases hdc : isDigit c with
 | true =>
  rw [if_pos rfl, if_pos rfl, ← List.cons_append, numS_app hs]
 | false =>
  rw [if_neg (by simp), if_neg (by simp), ← List.cons_append, tk_app hs, dw_app hs]
theorem tk_all {p : UInt8 → Bool} : ∀ {l : List UInt8}, l.all p = true → l.takeWhile p = l ∧ l.dropWhile p = []
 | [], _ => ⟨rfl, rfl⟩
 | c :: l, h => by
  simp only [List.all_cons, Bool.and_eq_true] at h
  obtain ⟨h1, h2⟩ := tk_all h.2
  rw [List.takeWhile_cons, List.dropWhile_cons, if_pos h.1, if_pos h.1, h1]
  exact ⟨rfl, h2⟩
theorem sign_ne {c d : UInt8} (h : isSign c = true) (hd : isSign d = false) : c ≠ d := by
 rintro rfl
 rw [h] at hd
 cases hd
theorem quote_word {s q : List UInt8} (h : quoteS s = some q) : ∃ c r, q = c :: r ∧ isBlank c = false ∧ c ≠ 59 ∧ wordS (c :: r) = (.tup [wordV 3 s 0, .bool true], []) := by
 unfold quoteS at h
 split at h
 ·rename_i hp
  cases h
  simp only [Bool.and_eq_true] at hp
  have hp := hp.1
  cases s with
  | nil => simp [isPlain] at hp
  | cons c r =>
   unfold isPlain at hp
   simp only [Bool.and_eq_true, Bool.not_eq_true'] at hp
   obtain ⟨hall, hdig⟩ := hp
   have hc : isSign c = true := by simp only [List.all_cons, Bool.and_eq_true] at hall; exact hall.1
   refine ⟨c, r, rfl, ?_, sign_ne hc (by decide), ?_⟩
   ·have h1 := sign_ne hc (d := 32) (by decide)
    have h2 := sign_ne hc (d := 9) (by decide)
    have h3 := sign_ne hc (d := 10) (by decide)
    have h4 := sign_ne hc (d := 13) (by decide)
    simp [isBlank, h1, h2, h3, h4]
   ·obtain ⟨t1, t2⟩ := tk_all hall
    simp only [wordS]
    rw [if_neg (sign_ne hc (by decide)), if_neg (sign_ne hc (by decide)), if_neg (sign_ne hc (by decide)), if_neg (sign_ne hc (by decide)), if_neg (sign_ne hc (by decide)), if_neg (by simp [hdig]), t1, t2]
    rfl
 ·split at h
  ·rename_i hb
   cases h
   obtain ⟨t1, t2⟩ := tk_all hb
   refine ⟨124, s ++ [124], rfl, by decide, by decide, ?_⟩
   have e : wordS (124 :: (s ++ [124])) = quoS (124 :: (s ++ [124])) := by simp [wordS]
   rw [e]
   unfold quoS
   simp only [List.drop_succ_cons, List.drop_zero]
   rw [dw_app (by decide), tk_app (by decide), t1, t2]
   rfl
  ·cases h
end Go.Lex
