/-
  Trees of words: reading, sizes, depths; the plain law. No conditions beyond the lemmas' own hypotheses.
-/
import Derived.Test.YtcbagnlidecmkaaGreatDoorAbsThree
set_option linter.unusedSimpArgs false
set_option linter.unnecessarySimpa false
set_option linter.unusedVariables false
set_option linter.constructorNameAsVariable false

/-
 law12: lists within lists: a stack reads what a recursion reads: the plain law.
-/
namespace Go.Sexp
inductive Tr (ω : Type) where
 | leaf (w : ω)
 | list (kids : List (Tr ω))
variable {ω : Type} (k : ω → Int)
abbrev Out (ω : Type) := Option (Tr ω) × List ω × Nat
mutual
def treeR : Nat → List ω → Tr ω × List ω × Nat × Bool
 | 0, ws => (.list [], ws, 0, false)
 | _ + 1, [] => (.list [], [], 0, false)
 | n + 1, w :: ws => if k w = 1 then kidsR n ws [] 1 else (.leaf w, ws, 0, true)
def kidsR : Nat → List ω → List (Tr ω) → Nat → Tr ω × List ω × Nat × Bool
 | 0, ws, acc, d => (.list acc, ws, d, false)
 | _ + 1, [], acc, d => (.list acc, [], d, false)
 | n + 1, w :: ws, acc, d => if k w = 2 then (.list acc, ws, d, true) else
   (if (treeR n (w :: ws)).2.2.2 = true then kidsR n (treeR n (w :: ws)).2.1 (acc ++ [(treeR n (w :: ws)).1]) (max d ((treeR n (w :: ws)).2.2.1 + 1))
   else (.list acc, (treeR n (w :: ws)).2.1, max d ((treeR n (w :: ws)).2.2.1 + 1), false))
end
def run (m : Nat) : List ω → List (List (Tr ω)) → Bool → Out ω
 | [], _, deep => (none, [], if deep = true then 4 else 2)
 | w :: ws, st, deep =>
  if k w = 1 then run m ws ([] :: st) (deep || decide (m < st.length + 1))
  else if k w = 2 then (match st with
   | [] => (none, ws, 2)
   | [kids] => if deep = true then (none, ws, 4) else (some (.list kids), ws, 0)
   | kids :: up :: st' => run m ws ((up ++ [.list kids]) :: st') deep)
  else (match st with
   | [] => if deep = true then (none, ws, 4) else (some (.leaf w), ws, 0)
   | up :: st' => run m ws ((up ++ [.leaf w]) :: st') deep)
def place (m : Nat) (t : Tr ω) (ws : List ω) (deep : Bool) : List (List (Tr ω)) → Out ω
 | [] => if deep = true then (none, ws, 4) else (some t, ws, 0)
 | up :: st' => run k m ws ((up ++ [t]) :: st') deep
theorem treeR_short : ∀ (n : Nat), (∀ ws : List ω, (treeR k n ws).2.2.2 = true → (treeR k n ws).2.1.length < ws.length) ∧ (∀ ws acc d, (kidsR k n ws acc d).2.2.2 = true → (kidsR k n ws acc d).2.1.length < ws.length) ∧
  (∀ ws : List ω, (treeR k n ws).2.1.length ≤ ws.length) ∧ (∀ ws acc d, (kidsR k n ws acc d).2.1.length ≤ ws.length)
 | 0 => ⟨fun ws h => by simp [treeR] at h, fun ws acc d h => by simp [kidsR] at h, fun ws => by simp [treeR], fun ws acc d => by simp [kidsR]⟩
 | n + 1 => by
  obtain ⟨h1, h2, h3, h4⟩ := treeR_short n
  refine ⟨fun ws h => ?_, fun ws acc d h => ?_, fun ws => ?_, fun ws acc d => ?_⟩
  ·cases ws with
   | nil => simp [treeR] at h
   | cons w ws =>
    unfold treeR at h ⊢
    split
    ·rename_i e
     rw [if_pos e] at h
     have := h2 ws [] 1 h
     simp only [List.length_cons]; omega
    ·simp
  ·cases ws with
   | nil => simp [kidsR] at h
   | cons w ws =>
    unfold kidsR at h ⊢
    split
    ·simp
    ·rename_i e
     rw [if_neg e] at h
     split
     ·rename_i e2
      rw [if_pos e2] at h
      have a := h1 _ e2
      have b := h2 _ _ _ h
      omega
     ·rename_i e2
      rw [if_neg e2] at h
      cases h
  ·cases ws with
   | nil => simp [treeR]
   | cons w ws =>
    unfold treeR
    split
    ·have := h4 ws [] 1
     simp only [List.length_cons]; omega
    ·simp
  ·cases ws with
   | nil => simp [kidsR]
   | cons w ws =>
    unfold kidsR
    split
    ·simp
    ·split
     ·have a := h3 (w :: ws)
      have b := h4 (treeR k n (w :: ws)).2.1 (acc ++ [(treeR k n (w :: ws)).1]) (max d ((treeR k n (w :: ws)).2.2.1 + 1))
      omega
     ·exact h3 _
theorem run_tree (m : Nat) : ∀ (n : Nat),
  (∀ (ws : List ω) (st : List (List (Tr ω))) (deep : Bool), 2 * ws.length < n → ws ≠ [] → (∀ w r, ws = w :: r → k w ≠ 2) →
   ((treeR k n ws).2.2.2 = true → run k m ws st deep = place k m (treeR k n ws).1 (treeR k n ws).2.1 (deep || decide (m < st.length + (treeR k n ws).2.2.1 ∧ 0 < (treeR k n ws).2.2.1)) st) ∧
   ((treeR k n ws).2.2.2 = false → (treeR k n ws).2.1 = [] ∧ run k m ws st deep = (none, [], if (deep || decide (m < st.length + (treeR k n ws).2.2.1 ∧ 0 < (treeR k n ws).2.2.1)) = true then 4 else 2)))
  ∧ (∀ (ws : List ω) (acc : List (Tr ω)) (d : Nat) (st : List (List (Tr ω))) (deep : Bool), 2 * ws.length + 1 < n → 1 ≤ d → (m < st.length + d → deep = true) →
   d ≤ (kidsR k n ws acc d).2.2.1 ∧
   ((kidsR k n ws acc d).2.2.2 = true → run k m ws (acc :: st) deep = place k m (kidsR k n ws acc d).1 (kidsR k n ws acc d).2.1 (deep || decide (m < st.length + (kidsR k n ws acc d).2.2.1)) st) ∧
   ((kidsR k n ws acc d).2.2.2 = false → (kidsR k n ws acc d).2.1 = [] ∧ run k m ws (acc :: st) deep = (none, [], if (deep || decide (m < st.length + (kidsR k n ws acc d).2.2.1)) = true then 4 else 2)))
 | 0 => ⟨fun ws st deep h => by omega, fun ws acc d st deep h => by omega⟩
 | n + 1 => by
  obtain ⟨ih1, ih2⟩ := run_tree m n
  constructor
  ·intro ws st deep hn hne h2
   cases ws with
   | nil => exact absurd rfl hne
   | cons w ws =>
    have h2 := h2 w ws rfl
    simp only [List.length_cons] at hn
    unfold treeR
    by_cases e : k w = 1
    ·rw [if_pos e]
     have hr : run k m (w :: ws) st deep = run k m ws ([] :: st) (deep || decide (m < st.length + 1)) := by rw [run.eq_def]; dsimp only; rw [if_pos e]
     rw [hr]
     obtain ⟨g0, g1, g2⟩ := ih2 ws [] 1 st (deep || decide (m < st.length + 1)) (by omega) (by omega) (fun h => by simp [h])
     have ed : (deep || decide (m < st.length + 1) || decide (m < st.length + (kidsR k n ws [] 1).2.2.1)) = (deep || decide (m < st.length + (kidsR k n ws [] 1).2.2.1 ∧ 0 < (kidsR k n ws [] 1).2.2.1)) := by
      rw [Bool.or_assoc]
      congr 1
      rw [Bool.eq_iff_iff]
      simp
      omega
     rw [ed] at g1 g2
     exact ⟨g1, g2⟩
    ·rw [if_neg e]
     have hr : run k m (w :: ws) st deep = place k m (.leaf w) ws deep st := by
      rw [run.eq_def]
      dsimp only
      rw [if_neg e, if_neg h2]
      unfold place
      cases st <;> rfl
     rw [hr]
     refine ⟨fun _ => ?_, fun h => by cases h⟩
     have : (deep || decide (m < st.length + 0 ∧ 0 < 0)) = deep := by simp
     rw [this]
  ·intro ws acc d st deep hn hd hdeep
   have hself : (deep || decide (m < st.length + d)) = deep := by
    cases deep with
    | true => rfl
    | false =>
     have : ¬ m < st.length + d := fun h => by have := hdeep h; cases this
     simp [this]
   cases ws with
   | nil =>
    refine ⟨by simp [kidsR], fun h => by simp [kidsR] at h, fun _ => ⟨by simp [kidsR], ?_⟩⟩
    have e : (kidsR k (n + 1) [] acc d).2.2.1 = d := by simp [kidsR]
    rw [e, hself]
    rw [run]
   | cons w ws =>
    simp only [List.length_cons] at hn
    unfold kidsR
    by_cases e : k w = 2
    ·rw [if_pos e]
     have hr : run k m (w :: ws) (acc :: st) deep = place k m (.list acc) ws deep st := by
      rw [run.eq_def]
      dsimp only
      rw [if_neg (by omega), if_pos e]
      unfold place
      cases st <;> rfl
     rw [hr]
     refine ⟨Nat.le_refl _, fun _ => ?_, fun h => by cases h⟩
     rw [hself]
    ·rw [if_neg e]
     obtain ⟨t1, t2⟩ := ih1 (w :: ws) (acc :: st) deep (by simp only [List.length_cons]; omega) (by simp) (fun w' r' h => by cases h; exact e)
     have hshort := (treeR_short k n).1 (w :: ws)
     obtain ⟨R, hR⟩ : ∃ R, R = treeR k n (w :: ws) := ⟨_, rfl⟩
     rw [← hR] at t1 t2 hshort ⊢
     have hdm : ∀ x : Bool, x = (deep || decide (m < (acc :: st).length + R.2.2.1 ∧ 0 < R.2.2.1)) → (m < st.length + max d (R.2.2.1 + 1) → x = true) ∧ ((x || decide (m < st.length + max d (R.2.2.1 + 1))) = x) := by
      intro x hx
      have key : m < st.length + max d (R.2.2.1 + 1) → x = true := by
       intro h
       rw [hx]
       by_cases h1 : m < st.length + d
       ·rw [hdeep h1]; rfl
       ·have : m < (acc :: st).length + R.2.2.1 ∧ 0 < R.2.2.1 := by simp only [List.length_cons]; omega
        rw [decide_eq_true this, Bool.or_true]
      refine ⟨key, ?_⟩
      cases x with
      | true => rfl
      | false =>
       have : ¬ m < st.length + max d (R.2.2.1 + 1) := fun h => by have := key h; cases this
       simp [this]
     by_cases ok : R.2.2.2 = true
     ·rw [if_pos ok, t1 ok]
      have hsh := hshort ok
      simp only [List.length_cons] at hsh
      obtain ⟨k1, k2⟩ := hdm _ rfl
      obtain ⟨g0, g1, g2⟩ := ih2 R.2.1 (acc ++ [R.1]) (max d (R.2.2.1 + 1)) st (deep || decide (m < (acc :: st).length + R.2.2.1 ∧ 0 < R.2.2.1)) (by omega) (by omega) k1
      have hpl : place k m R.1 R.2.1 (deep || decide (m < (acc :: st).length + R.2.2.1 ∧ 0 < R.2.2.1)) (acc :: st) = run k m R.2.1 ((acc ++ [R.1]) :: st) (deep || decide (m < (acc :: st).length + R.2.2.1 ∧ 0 < R.2.2.1)) := rfl
      rw [hpl]
      obtain ⟨K, hK⟩ : ∃ K, K = kidsR k n R.2.1 (acc ++ [R.1]) (max d (R.2.2.1 + 1)) := ⟨_, rfl⟩
      rw [← hK] at g0 g1 g2 ⊢
      have ed : (deep || decide (m < (acc :: st).length + R.2.2.1 ∧ 0 < R.2.2.1) || decide (m < st.length + K.2.2.1)) = (deep || decide (m < st.length + K.2.2.1)) := by
       rw [Bool.or_assoc]
       congr 1
       rw [Bool.eq_iff_iff]
       simp only [List.length_cons, Bool.or_eq_true, decide_eq_true_eq]
       omega
      rw [ed] at g1 g2
      exact ⟨by omega, g1, g2⟩
     ·have ok' : R.2.2.2 = false := by simpa using ok
      rw [if_neg ok]
      obtain ⟨r1, r2⟩ := t2 ok'
      refine ⟨by show d ≤ max d (R.2.2.1 + 1); omega, fun h => (by cases h), fun _ => ⟨r1, ?_⟩⟩
      rw [r2]
      have ed : (deep || decide (m < (acc :: st).length + R.2.2.1 ∧ 0 < R.2.2.1)) = (deep || decide (m < st.length + max d (R.2.2.1 + 1))) := by
       obtain ⟨k1, k2⟩ := hdm _ rfl
       rw [Bool.eq_iff_iff]
       constructor
       ·intro h
        rcases Bool.or_eq_true_iff.1 h with h | h
        ·rw [h]; rfl
        ·have := of_decide_eq_true h
         simp only [List.length_cons] at this
         rw [decide_eq_true (show m < st.length + max d (R.2.2.1 + 1) by omega), Bool.or_true]
       ·intro h
        rcases Bool.or_eq_true_iff.1 h with h | h
        ·rw [h]; rfl
        ·exact k1 (of_decide_eq_true h)
      rw [ed]
def nextR (m n : Nat) (ws : List ω) : Out ω := match ws with
 | [] => (none, [], 2)
 | w :: r => if k w = 2 then (none, r, 2) else
  (if m < (treeR k n ws).2.2.1 then (none, (treeR k n ws).2.1, 4)
  else if (treeR k n ws).2.2.2 = false then (none, (treeR k n ws).2.1, 2) else (some (treeR k n ws).1, (treeR k n ws).2.1, 0))
theorem next_eq {m n : Nat} {ws : List ω} (hn : 2 * ws.length < n) : run k m ws [] false = nextR k m n ws := by
 cases ws with
 | nil => rfl
 | cons w r =>
  unfold nextR
  dsimp only
  by_cases e : k w = 2
  ·rw [if_pos e, run.eq_def]
   dsimp only
   rw [if_neg (by omega), if_pos e]
  ·rw [if_neg e]
   obtain ⟨g1, g2⟩ := (run_tree k m n).1 (w :: r) [] false hn (by simp) (fun w' r' h => by cases h; exact e)
   obtain ⟨R, hR⟩ : ∃ R, R = treeR k n (w :: r) := ⟨_, rfl⟩
   rw [← hR] at g1 g2 ⊢
   have ed : (false || decide (m < ([] : List (List (Tr ω))).length + R.2.2.1 ∧ 0 < R.2.2.1)) = decide (m < R.2.2.1) := by
    rw [Bool.false_or, decide_eq_decide]
    simp only [List.length_nil]
    omega
   rw [ed] at g1 g2
   cases ok : R.2.2.2 with
   | true =>
    rw [g1 ok]
    unfold place
    by_cases h : m < R.2.2.1
    ·rw [if_pos h, if_pos (decide_eq_true h)]
    ·rw [if_neg h, if_neg (by simpa using h), if_neg (by simp)]
   | false =>
    obtain ⟨h1, h2⟩ := g2 ok
    rw [h2, h1]
    by_cases h : m < R.2.2.1
    ·rw [if_pos h, if_pos (decide_eq_true h)]
    ·rw [if_neg h, if_neg (by simpa using h), if_pos rfl]
end Go.Sexp

/-
 law12: how much a tree is, and how many words it takes: the plain law.
-/
namespace Go.Sexp
variable {ω : Type}
mutual
def Tr.size : Tr ω → Nat
 | .leaf _ => 1
 | .list kids => 1 + sizeL kids
def sizeL : List (Tr ω) → Nat
 | [] => 0
 | t :: r => t.size + sizeL r
end
mutual
def Tr.deep : Tr ω → Nat
 | .leaf _ => 0
 | .list kids => deepL kids + 1
def deepL : List (Tr ω) → Nat
 | [] => 0
 | t :: r => max t.deep (deepL r)
end
theorem sizeL_append : ∀ (l r : List (Tr ω)), sizeL (l ++ r) = sizeL l + sizeL r
 | [], r => by simp [sizeL]
 | t :: l, r => by simp only [List.cons_append, sizeL, sizeL_append l r]; omega
theorem deepL_append : ∀ (l r : List (Tr ω)), deepL (l ++ r) = max (deepL l) (deepL r)
 | [], r => by simp [deepL]
 | t :: l, r => by simp only [List.cons_append, deepL, deepL_append l r]; omega
theorem sizeL_one (t : Tr ω) : sizeL [t] = t.size := by simp [sizeL]
theorem deepL_one (t : Tr ω) : deepL [t] = t.deep := by simp [deepL]
variable (k : ω → Int)
def opens : List ω → Nat
 | [] => 0
 | w :: r => (if k w = 1 then 1 else 0) + opens r
theorem size_tree : ∀ (n : Nat),
  (∀ ws : List ω, (treeR k n ws).2.2.2 = true → ws.length + opens k (treeR k n ws).2.1 = (treeR k n ws).2.1.length + (treeR k n ws).1.size + opens k ws)
  ∧ (∀ (ws : List ω) (acc : List (Tr ω)) (d : Nat), (kidsR k n ws acc d).2.2.2 = true → ∃ kids, (kidsR k n ws acc d).1 = .list kids ∧ ws.length + opens k (kidsR k n ws acc d).2.1 + sizeL acc = (kidsR k n ws acc d).2.1.length + sizeL kids + opens k ws + 1)
 | 0 => ⟨fun ws h => by simp [treeR] at h, fun ws acc d h => by simp [kidsR] at h⟩
 | n + 1 => by
  obtain ⟨ih1, ih2⟩ := size_tree n
  constructor
  ·intro ws h
   cases ws with
   | nil => simp [treeR] at h
   | cons w ws =>
    unfold treeR at h ⊢
    by_cases e : k w = 1
    ·rw [if_pos e] at h ⊢
     obtain ⟨kids, g1, g2⟩ := ih2 ws [] 1 h
     rw [g1]
     simp only [opens, if_pos e, List.length_cons, Tr.size]
     simp only [sizeL] at g2
     omega
    ·rw [if_neg e]
     simp only [opens, if_neg e, List.length_cons, Tr.size]
     omega
  ·intro ws acc d h
   cases ws with
   | nil => simp [kidsR] at h
   | cons w ws =>
    unfold kidsR at h ⊢
    by_cases e : k w = 2
    ·rw [if_pos e]
     refine ⟨acc, rfl, ?_⟩
     simp only [opens, if_neg (show ¬ k w = 1 by omega), List.length_cons]
     omega
    ·rw [if_neg e] at h ⊢
     by_cases ok : (treeR k n (w :: ws)).2.2.2 = true
     ·rw [if_pos ok] at h ⊢
      obtain ⟨kids, g1, g2⟩ := ih2 _ _ _ h
      have g0 := ih1 _ ok
      refine ⟨kids, g1, ?_⟩
      rw [sizeL_append, sizeL_one] at g2
      omega
     ·rw [if_neg ok] at h
      cases h
theorem deep_tree : ∀ (n : Nat),
  (∀ ws : List ω, (treeR k n ws).2.2.2 = true → (treeR k n ws).1.deep = (treeR k n ws).2.2.1)
  ∧ (∀ (ws : List ω) (acc : List (Tr ω)) (d : Nat), d = deepL acc + 1 → (kidsR k n ws acc d).2.2.2 = true → (kidsR k n ws acc d).1.deep = (kidsR k n ws acc d).2.2.1)
 | 0 => ⟨fun ws h => by simp [treeR] at h, fun ws acc d _ h => by simp [kidsR] at h⟩
 | n + 1 => by
  obtain ⟨ih1, ih2⟩ := deep_tree n
  constructor
  ·intro ws h
   cases ws with
   | nil => simp [treeR] at h
   | cons w ws =>
    unfold treeR at h ⊢
    by_cases e : k w = 1
    ·rw [if_pos e] at h ⊢
     exact ih2 ws [] 1 (by simp [deepL]) h
    ·rw [if_neg e]
     simp [Tr.deep]
  ·intro ws acc d hd h
   cases ws with
   | nil => simp [kidsR] at h
   | cons w ws =>
    unfold kidsR at h ⊢
    by_cases e : k w = 2
    ·rw [if_pos e]
     simp only [Tr.deep, hd]
    ·rw [if_neg e] at h ⊢
     by_cases ok : (treeR k n (w :: ws)).2.2.2 = true
     ·rw [if_pos ok] at h ⊢
      refine ih2 _ _ _ ?_ h
      rw [deepL_append, deepL_one, ih1 _ ok, hd]
      omega
     ·rw [if_neg ok] at h
      cases h
end Go.Sexp

/-
 law12: all trees of a text; lists within lists: the plain laws.
-/
namespace Go.Sexp
variable {ω : Type} (k : ω → Int)
theorem next_some {m n : Nat} {ws r : List ω} {t : Tr ω} {e : Nat} (h : nextR k m n ws = (some t, r, e)) : (treeR k n ws).2.2.2 = true ∧ (treeR k n ws).1 = t ∧ (treeR k n ws).2.1 = r ∧ (treeR k n ws).2.2.1 ≤ m ∧ e = 0 := by
 unfold nextR at h
 split at h
 ·cases h
 ·split at h
  ·cases h
  ·split at h
   ·cases h
   ·split at h
    ·cases h
    ·rename_i h1 h2 h3
     cases h
     exact ⟨by simpa using h3, rfl, rfl, by omega, rfl⟩
end Go.Sexp

/-
 law12: trees seen with less in their words; a tree and its words: the plain law.
-/
namespace Go.Sexp
variable {ω κ : Type}
mutual
def Tr.map (f : ω → κ) : Tr ω → Tr κ
 | .leaf w => .leaf (f w)
 | .list kids => .list (mapL f kids)
def mapL (f : ω → κ) : List (Tr ω) → List (Tr κ)
 | [] => []
 | t :: r => t.map f :: mapL f r
end
theorem mapL_eq (f : ω → κ) : ∀ l : List (Tr ω), mapL f l = l.map (Tr.map f)
 | [] => rfl
 | t :: r => by rw [mapL, mapL_eq f r]; rfl
theorem mapL_append (f : ω → κ) (l r : List (Tr ω)) : mapL f (l ++ r) = mapL f l ++ mapL f r := by simp only [mapL_eq, List.map_append]
theorem mapL_one (f : ω → κ) (t : Tr ω) : mapL f [t] = [t.map f] := rfl
variable {k : ω → Int} {k' : κ → Int} {f : ω → κ}
theorem treeR_map (hk : ∀ w, k' (f w) = k w) : ∀ (n : Nat),
  (∀ ws : List ω, treeR k' n (ws.map f) = ((treeR k n ws).1.map f, (treeR k n ws).2.1.map f, (treeR k n ws).2.2.1, (treeR k n ws).2.2.2)) ∧
  (∀ (ws : List ω) (acc : List (Tr ω)) (d : Nat), kidsR k' n (ws.map f) (mapL f acc) d = ((kidsR k n ws acc d).1.map f, (kidsR k n ws acc d).2.1.map f, (kidsR k n ws acc d).2.2.1, (kidsR k n ws acc d).2.2.2))
 | 0 => ⟨fun ws => by simp [treeR, Tr.map, mapL], fun ws acc d => by simp [kidsR, Tr.map]⟩
 | n + 1 => by
  obtain ⟨h1, h2⟩ := treeR_map hk n
  constructor
  ·intro ws
   cases ws with
   | nil => simp [treeR, Tr.map, mapL]
   | cons w ws =>
    rw [List.map_cons, treeR, treeR, hk]
    by_cases e : k w = 1
    ·rw [if_pos e, if_pos e]
     exact h2 ws [] 1
    ·rw [if_neg e, if_neg e]
     rfl
  ·intro ws acc d
   cases ws with
   | nil => simp [kidsR, Tr.map]
   | cons w ws =>
    rw [List.map_cons, kidsR, kidsR, hk]
    by_cases e : k w = 2
    ·rw [if_pos e, if_pos e]
     rfl
    ·rw [if_neg e, if_neg e]
     have h := h1 (w :: ws)
     rw [List.map_cons] at h
     rw [h]
     dsimp only
     by_cases ok : (treeR k n (w :: ws)).2.2.2 = true
     ·rw [if_pos ok, if_pos ok, ← mapL_one, ← mapL_append]
      exact h2 _ _ _
     ·rw [if_neg ok, if_neg ok]
      rfl
theorem nextR_map (hk : ∀ w, k' (f w) = k w) (m n : Nat) (ws : List ω) : nextR k' m n (ws.map f) = ((nextR k m n ws).1.map (Tr.map f), (nextR k m n ws).2.1.map f, (nextR k m n ws).2.2) := by
 cases ws with
 | nil => rfl
 | cons w r =>
  have h := (treeR_map (k := k) hk n).1 (w :: r)
  rw [List.map_cons] at h ⊢
  unfold nextR
  dsimp only
  rw [h, hk]
  dsimp only
  split
  ·rfl
  ·split
   ·rfl
   ·split <;> rfl
theorem treeR_suffix (k : ω → Int) : ∀ (n : Nat), (∀ ws : List ω, (treeR k n ws).2.1 <:+ ws) ∧ (∀ (ws : List ω) (acc : List (Tr ω)) (d : Nat), (kidsR k n ws acc d).2.1 <:+ ws)
 | 0 => ⟨fun ws => by simp [treeR], fun ws acc d => by simp [kidsR]⟩
 | n + 1 => by
  obtain ⟨h1, h2⟩ := treeR_suffix k n
  constructor
  ·intro ws
   cases ws with
   | nil => simp [treeR]
   | cons w ws =>
    rw [treeR]
    split
    ·exact (h2 ws [] 1).trans (List.suffix_cons _ _)
    ·exact List.suffix_cons _ _
  ·intro ws acc d
   cases ws with
   | nil => simp [kidsR]
   | cons w ws =>
    rw [kidsR]
    split
    ·exact List.suffix_cons _ _
    ·split
     ·exact (h2 _ _ _).trans (h1 _)
     ·exact h1 _
theorem nextR_suffix (k : ω → Int) (m n : Nat) (ws : List ω) : (nextR k m n ws).2.1 <:+ ws := by
 unfold nextR
 split
 ·exact List.suffix_refl _
 ·split
  ·exact List.suffix_cons _ _
  ·split
   ·exact (treeR_suffix k n).1 _
   ·split
    ·exact (treeR_suffix k n).1 _
    ·exact (treeR_suffix k n).1 _
mutual
def flatT (o c : κ) : Tr κ → List κ
 | .leaf w => [w]
 | .list kids => o :: (flatL o c kids ++ [c])
def flatL (o c : κ) : List (Tr κ) → List κ
 | [] => []
 | t :: r => flatT o c t ++ flatL o c r
end
mutual
def Tr.all (P : κ → Prop) : Tr κ → Prop
 | .leaf w => P w
 | .list kids => allL P kids
def allL (P : κ → Prop) : List (Tr κ) → Prop
 | [] => True
 | t :: r => t.all P ∧ allL P r
end
theorem allL_append (P : κ → Prop) : ∀ l r : List (Tr κ), allL P (l ++ r) ↔ allL P l ∧ allL P r
 | [], r => by simp [allL]
 | t :: l, r => by simp only [List.cons_append, allL, allL_append P l r, and_assoc]
theorem treeR_flat {o c : κ} {P : κ → Prop} : ∀ (n : Nat),
  (∀ (ws : List κ), (∀ w ∈ ws, (k' w = 1 → w = o) ∧ (k' w = 2 → w = c) ∧ (k' w ≠ 1 → k' w ≠ 2 → P w)) → (∀ w r, ws = w :: r → k' w ≠ 2) → (treeR k' n ws).2.2.2 = true → ws = flatT o c (treeR k' n ws).1 ++ (treeR k' n ws).2.1 ∧ (treeR k' n ws).1.all P) ∧
  (∀ (ws : List κ) (acc : List (Tr κ)) (d : Nat), (∀ w ∈ ws, (k' w = 1 → w = o) ∧ (k' w = 2 → w = c) ∧ (k' w ≠ 1 → k' w ≠ 2 → P w)) → allL P acc → (kidsR k' n ws acc d).2.2.2 = true →
   ∃ kids, (kidsR k' n ws acc d).1 = .list (acc ++ kids) ∧ ws = flatL o c kids ++ c :: (kidsR k' n ws acc d).2.1 ∧ allL P (acc ++ kids))
 | 0 => ⟨fun ws _ _ h => by simp [treeR] at h, fun ws acc d _ _ h => by simp [kidsR] at h⟩
 | n + 1 => by
  obtain ⟨h1, h2⟩ := treeR_flat (o := o) (c := c) (P := P) n
  constructor
  ·intro ws hw hf h
   cases ws with
   | nil => simp [treeR] at h
   | cons w ws =>
    rw [treeR] at h ⊢
    by_cases e : k' w = 1
    ·rw [if_pos e] at h ⊢
     obtain ⟨kids, a1, a2, a3⟩ := h2 ws [] 1 (fun x hx => hw x (by simp [hx])) trivial h
     rw [a1]
     refine ⟨?_, a3⟩
     have := (hw w (by simp)).1 e
     rw [this, List.nil_append]
     show o :: ws = o :: (flatL o c kids ++ [c]) ++ _
     rw [List.cons_append, List.append_assoc]
     exact congrArg _ a2
    ·rw [if_neg e]
     exact ⟨rfl, (hw w (by simp)).2.2 e (hf w ws rfl)⟩
  ·intro ws acc d hw ha h
   cases ws with
   | nil => simp [kidsR] at h
   | cons w ws =>
    rw [kidsR] at h ⊢
    by_cases e : k' w = 2
    ·rw [if_pos e]
     refine ⟨[], by rw [List.append_nil], ?_, by rw [List.append_nil]; exact ha⟩
     rw [(hw w (by simp)).2.1 e]
     rfl
    ·rw [if_neg e] at h ⊢
     by_cases ok : (treeR k' n (w :: ws)).2.2.2 = true
     ·rw [if_pos ok] at h ⊢
      obtain ⟨b1, b2⟩ := h1 (w :: ws) hw (fun x r hx => by cases hx; exact e) ok
      have hr : ∀ x ∈ (treeR k' n (w :: ws)).2.1, x ∈ w :: ws := fun x hx => by rw [b1]; exact List.mem_append_right _ hx
      obtain ⟨kids, a1, a2, a3⟩ := h2 _ (acc ++ [(treeR k' n (w :: ws)).1]) (max d ((treeR k' n (w :: ws)).2.2.1 + 1)) (fun x hx => hw x (hr x hx)) ((allL_append P _ _).2 ⟨ha, b2, trivial⟩) h
      refine ⟨(treeR k' n (w :: ws)).1 :: kids, ?_, ?_, ?_⟩
      ·rw [a1, List.append_assoc]; rfl
      ·refine b1.trans ?_
       rw [flatL, List.append_assoc]
       exact congrArg _ a2
      ·have : acc ++ (treeR k' n (w :: ws)).1 :: kids = acc ++ [(treeR k' n (w :: ws)).1] ++ kids := by rw [List.append_assoc]; rfl
       rw [this]
       exact a3
     ·rw [if_neg ok] at h
      cases h
end Go.Sexp
