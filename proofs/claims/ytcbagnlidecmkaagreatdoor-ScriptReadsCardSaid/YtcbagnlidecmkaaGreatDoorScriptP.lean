/-
  Commands of trees, read, written and read again: the plain law. No conditions beyond the lemmas' own hypotheses.
-/
import Derived.Test.YtcbagnlidecmkaaGreatDoorSexpB
import Derived.Test.YtcbagnlidecmkaaGreatDoorAbsThree
import Derived.Lib.ItoaNum
set_option linter.unusedSimpArgs false
set_option linter.unnecessarySimpa false
set_option linter.unusedVariables false
set_option linter.constructorNameAsVariable false

/-
 Commands of trees: what is read and what is written: the plain law.
-/
namespace Go.Lex
open Go Go.Abs Go.Sexp
set_option maxRecDepth 20000
def nmList : List (List UInt8) := [[115, 101, 116, 45, 108, 111, 103, 105, 99],
 [115, 101, 116, 45, 111, 112, 116, 105, 111, 110],
 [115, 101, 116, 45, 105, 110, 102, 111],
 [100, 101, 99, 108, 97, 114, 101, 45, 115, 111, 114, 116],
 [100, 101, 99, 108, 97, 114, 101, 45, 102, 117, 110],
 [100, 101, 102, 105, 110, 101, 45, 102, 117, 110],
 [97, 115, 115, 101, 114, 116],
 [112, 117, 115, 104],
 [112, 111, 112],
 [99, 104, 101, 99, 107, 45, 115, 97, 116],
 [103, 101, 116, 45, 109, 111, 100, 101, 108],
 [103, 101, 116, 45, 118, 97, 108, 117, 101],
 [101, 99, 104, 111],
 [114, 101, 115, 101, 116],
 [101, 120, 105, 116]]
def declConst : List UInt8 := [100, 101, 99, 108, 97, 114, 101, 45, 99, 111, 110, 115, 116]
structure Cmd (ω : Type) where
 kind : Nat
 name : List UInt8
 params : List (List UInt8 × List UInt8)
 result : List UInt8
 term : Tr ω
 terms : List (Tr ω)
 n : Nat
def kindOf (w : List UInt8) : Nat := match nmList.idxOf? w with | some i => i + 1 | none => 0
def decN (s : List UInt8) : Nat := s.foldl (fun n c => n * 10 + (c.toNat - 48)) 0
def numK (s : List UInt8) : Option Nat := if s.all isDigit = true ∧ s ≠ [] ∧ s.length ≤ 4 ∧ decN s ≤ 1000 then some (decN s) else none
section
variable {ω κ : Type}
def Cmd.map (f : ω → κ) (c : Cmd ω) : Cmd κ := ⟨c.kind, c.name, c.params, c.result, c.term.map f, mapL f c.terms, c.n⟩
def c0 (z : ω) (k : Nat) : Cmd ω := ⟨k, [], [], [], .leaf z, [], 0⟩
variable (p : ω → Key) (z : ω)
def symT : Tr ω → Option (List UInt8)
 | .leaf w => if (p w).1 = 3 then some (p w).2 else none
 | .list _ => none
def isK (k : Int) : Tr ω → Bool
 | .leaf w => (p w).1 == k
 | .list _ => false
def txtT : Tr ω → List UInt8
 | .leaf w => (p w).2
 | .list _ => []
def syms : List (Tr ω) → Option (List (List UInt8))
 | [] => some []
 | t :: r => match symT p t, syms r with
  | some s, some l => some (s :: l)
  | _, _ => none
def parT : Tr ω → Option (List UInt8 × List UInt8)
 | .list [a, b] => match symT p a, symT p b with
  | some x, some y => some (x, y)
  | _, _ => none
 | _ => none
def pars : List (Tr ω) → List (List UInt8 × List UInt8) → Option (List (List UInt8 × List UInt8))
 | [], acc => some acc
 | t :: r, acc => match parT p t with
  | some q => if (acc.map Prod.fst).contains q.1 = true then none else pars r (acc ++ [q])
  | none => none
def setB (k : Nat) : List (Tr ω) → Option (Cmd ω)
 | [a] => if isK p 4 a = true ∧ k = 3 then some { c0 z k with name := txtT p a } else none
 | [a, b] => if isK p 4 a = true then some { c0 z k with name := txtT p a, term := b } else none
 | _ => none
def sortB : List (Tr ω) → Option (Cmd ω)
 | [a] => (symT p a).map fun s => { c0 z 4 with name := s }
 | [a, b] => if isK p 5 b = true ∧ numK (txtT p b) = some 0 then (symT p a).map fun s => { c0 z 4 with name := s } else none
 | _ => none
def funB : List (Tr ω) → Option (Cmd ω)
 | [a, .list ks, r] => match symT p a, syms p ks, symT p r with
  | some s, some l, some q => some { c0 z 5 with name := s, params := l.map ([], ·), result := q }
  | _, _, _ => none
 | _ => none
def defB : List (Tr ω) → Option (Cmd ω)
 | [a, .list ks, r, t] => match symT p a, pars p ks [], symT p r with
  | some s, some l, some q => some { c0 z 6 with name := s, params := l, result := q, term := t }
  | _, _, _ => none
 | _ => none
def levB (k : Nat) : List (Tr ω) → Option (Cmd ω)
 | [] => some { c0 z k with n := 1 }
 | [a] => if isK p 5 a = true then (numK (txtT p a)).map fun i => { c0 z k with n := i } else none
 | _ => none
def valB : List (Tr ω) → Option (Cmd ω)
 | [.list (t :: r)] => some { c0 z 12 with terms := t :: r }
 | _ => none
def body (k : Nat) (l : List (Tr ω)) : Option (Cmd ω) :=
 if k = 1 then (match l with | [a] => (symT p a).map fun s => { c0 z 1 with name := s } | _ => none)
 else if k = 2 ∨ k = 3 then setB p z k l
 else if k = 4 then sortB p z l
 else if k = 5 then funB p z l
 else if k = 6 then defB p z l
 else if k = 7 then (match l with | [a] => some { c0 z 7 with term := a } | _ => none)
 else if k = 8 ∨ k = 9 then levB p z k l
 else if k = 12 then valB z l
 else if k = 13 then (match l with | [a] => if isK p 7 a = true then some { c0 z 13 with name := txtT p a } else none | _ => none)
 else if k = 10 ∨ k = 11 ∨ k = 14 ∨ k = 15 then (match l with | [] => some (c0 z k) | _ => none)
 else none
def constB : List (Tr ω) → Option (Cmd ω)
 | [a, r] => funB p z [a, .list [], r]
 | _ => none
def parse : Tr ω → Option (Cmd ω)
 | .list (h :: l) => match symT p h with
  | some w => if w = declConst then constB p z l else body p z (kindOf w) l
  | none => none
 | _ => none
end
def sK (s : List UInt8) : Tr Key := .leaf (3, s)
def itoaK (n : Nat) : List UInt8 := if n < 10 then [UInt8.ofNat (48 + n)] else if n < 100 then [UInt8.ofNat (48 + n / 10), UInt8.ofNat (48 + n % 10)] else if n < 1000 then [UInt8.ofNat (48 + n / 100), UInt8.ofNat (48 + n / 10 % 10), UInt8.ofNat (48 + n % 10)] else [49, 48, 48, 48]
def noneK : Tr Key → Bool
 | .leaf w => w.1 == 0
 | .list _ => false
def partsK (c : Cmd Key) : List (Tr Key) :=
 if c.kind = 1 then [sK c.name]
 else if c.kind = 2 then [.leaf (4, c.name), c.term]
 else if c.kind = 3 then (if noneK c.term = true then [.leaf (4, c.name)] else [.leaf (4, c.name), c.term])
 else if c.kind = 4 then [sK c.name, .leaf (5, [48])]
 else if c.kind = 5 then [sK c.name, .list (c.params.map fun q => sK q.2), sK c.result]
 else if c.kind = 6 then [sK c.name, .list (c.params.map fun q => .list [sK q.1, sK q.2]), sK c.result, c.term]
 else if c.kind = 7 then [c.term]
 else if c.kind = 8 ∨ c.kind = 9 then [.leaf (5, itoaK c.n)]
 else if c.kind = 12 then [.list c.terms]
 else if c.kind = 13 then [.leaf (7, c.name)]
 else []
def nameK (k : Nat) : List UInt8 := (nmList[k - 1]?).getD []
def treeK (c : Cmd Key) : Tr Key := .list (sK (nameK c.kind) :: partsK c)
def textK (c : Cmd Key) : List UInt8 := showK (treeK c)
end Go.Lex

/-
 Commands of trees: a command does not look at more than what the words are; what is written is read as it was: the plain law.
-/
namespace Go.Lex
open Go Go.Abs Go.Sexp
set_option maxRecDepth 20000
section
variable {ω κ : Type} {p : ω → Key} {q : κ → Key} {f : ω → κ}
theorem symT_map (h : ∀ w, q (f w) = p w) : ∀ t : Tr ω, symT q (t.map f) = symT p t
 | .leaf w => by simp [symT, Tr.map, h]
 | .list _ => rfl
theorem isK_map (h : ∀ w, q (f w) = p w) (k : Int) : ∀ t : Tr ω, isK q k (t.map f) = isK p k t
 | .leaf w => by simp [isK, Tr.map, h]
 | .list _ => rfl
theorem txtT_map (h : ∀ w, q (f w) = p w) : ∀ t : Tr ω, txtT q (t.map f) = txtT p t
 | .leaf w => by simp [txtT, Tr.map, h]
 | .list _ => rfl
theorem syms_map (h : ∀ w, q (f w) = p w) : ∀ l : List (Tr ω), syms q (mapL f l) = syms p l
 | [] => rfl
 | t :: r => by simp only [mapL, syms, symT_map h, syms_map h r]
theorem parT_map (h : ∀ w, q (f w) = p w) : ∀ t : Tr ω, parT q (t.map f) = parT p t
 | .leaf w => rfl
 | .list [] => rfl
 | .list [a] => rfl
 | .list [a, b] => by simp only [Tr.map, mapL, parT, symT_map h]
 | .list (a :: b :: c :: r) => rfl
theorem pars_map (h : ∀ w, q (f w) = p w) : ∀ (l : List (Tr ω)) (acc : List (List UInt8 × List UInt8)), pars q (mapL f l) acc = pars p l acc
 | [], _ => rfl
 | t :: r, acc => by
  simp only [mapL, pars, parT_map h]
  cases parT p t with
  | none => rfl
  | some u => simp only [pars_map h r]
theorem funB_map (h : ∀ w, q (f w) = p w) (z : ω) : ∀ l : List (Tr ω), funB q (f z) (mapL f l) = (funB p z l).map (Cmd.map f)
 | [] => rfl
 | [_] => rfl
 | [_, b] => by cases b <;> rfl
 | [a, .leaf w, r] => rfl
 | [a, .list ks, r] => by
  simp only [mapL, Tr.map, funB, symT_map h, syms_map h]
  cases symT p a <;> cases syms p ks <;> cases symT p r <;> rfl
 | _ :: b :: _ :: _ :: _ => by cases b <;> rfl
theorem defB_map (h : ∀ w, q (f w) = p w) (z : ω) : ∀ l : List (Tr ω), defB q (f z) (mapL f l) = (defB p z l).map (Cmd.map f)
 | [] => rfl
 | [_] => rfl
 | [_, b] => by cases b <;> rfl
 | [_, b, _] => by cases b <;> rfl
 | [a, .leaf w, r, t] => rfl
 | [a, .list ks, r, t] => by
  simp only [mapL, Tr.map, defB, symT_map h, pars_map h]
  cases symT p a <;> cases pars p ks [] <;> cases symT p r <;> rfl
 | _ :: b :: _ :: _ :: _ :: _ => by cases b <;> rfl
theorem setB_map (h : ∀ w, q (f w) = p w) (z : ω) (k : Nat) : ∀ l : List (Tr ω), setB q (f z) k (mapL f l) = (setB p z k l).map (Cmd.map f)
 | [] => rfl
 | [a] => by
  simp only [mapL, setB, isK_map h, txtT_map h]
  split <;> rfl
 | [a, b] => by
  simp only [mapL, setB, isK_map h, txtT_map h]
  split <;> rfl
 | _ :: _ :: _ :: _ => rfl
theorem sortB_map (h : ∀ w, q (f w) = p w) (z : ω) : ∀ l : List (Tr ω), sortB q (f z) (mapL f l) = (sortB p z l).map (Cmd.map f)
 | [] => rfl
 | [a] => by
  simp only [mapL, sortB, symT_map h]
  cases symT p a <;> rfl
 | [a, b] => by
  simp only [mapL, sortB, isK_map h, txtT_map h, symT_map h]
  split
  ·cases symT p a <;> rfl
  ·rfl
 | _ :: _ :: _ :: _ => rfl
theorem levB_map (h : ∀ w, q (f w) = p w) (z : ω) (k : Nat) : ∀ l : List (Tr ω), levB q (f z) k (mapL f l) = (levB p z k l).map (Cmd.map f)
 | [] => rfl
 | [a] => by
  simp only [mapL, levB, isK_map h, txtT_map h]
  split
  ·cases numK (txtT p a) <;> rfl
  ·rfl
 | _ :: _ :: _ => rfl
theorem valB_map (z : ω) : ∀ l : List (Tr ω), valB (f z) (mapL f l) = (valB z l).map (Cmd.map f)
 | [] => rfl
 | [.leaf w] => rfl
 | [.list []] => rfl
 | [.list (t :: r)] => rfl
 | .leaf _ :: _ :: _ => rfl
 | .list [] :: _ :: _ => rfl
 | .list (_ :: _) :: _ :: _ => rfl
theorem body_map (h : ∀ w, q (f w) = p w) (z : ω) (k : Nat) (l : List (Tr ω)) : body q (f z) k (mapL f l) = (body p z k l).map (Cmd.map f) := by
 unfold body
 by_cases e1 : k = 1
 ·rw [if_pos e1, if_pos e1]
  match l with
  | [] => rfl
  | [a] =>
   simp only [mapL, symT_map h]
   cases symT p a <;> rfl
  | _ :: _ :: _ => rfl
 rw [if_neg e1, if_neg e1]
 by_cases e2 : k = 2 ∨ k = 3
 ·rw [if_pos e2, if_pos e2]; exact setB_map h z k l
 rw [if_neg e2, if_neg e2]
 by_cases e4 : k = 4
 ·rw [if_pos e4, if_pos e4]; exact sortB_map h z l
 rw [if_neg e4, if_neg e4]
 by_cases e5 : k = 5
 ·rw [if_pos e5, if_pos e5]; exact funB_map h z l
 rw [if_neg e5, if_neg e5]
 by_cases e6 : k = 6
 ·rw [if_pos e6, if_pos e6]; exact defB_map h z l
 rw [if_neg e6, if_neg e6]
 by_cases e7 : k = 7
 ·rw [if_pos e7, if_pos e7]
  match l with
  | [] => rfl
  | [a] => rfl
  | _ :: _ :: _ => rfl
 rw [if_neg e7, if_neg e7]
 by_cases e8 : k = 8 ∨ k = 9
 ·rw [if_pos e8, if_pos e8]; exact levB_map h z k l
 rw [if_neg e8, if_neg e8]
 by_cases e12 : k = 12
 ·rw [if_pos e12, if_pos e12]; exact valB_map z l
 rw [if_neg e12, if_neg e12]
 by_cases e13 : k = 13
 ·rw [if_pos e13, if_pos e13]
  match l with
  | [] => rfl
  | [a] =>
   simp only [mapL, isK_map h, txtT_map h]
   split <;> rfl
  | _ :: _ :: _ => rfl
 rw [if_neg e13, if_neg e13]
 by_cases e10 : k = 10 ∨ k = 11 ∨ k = 14 ∨ k = 15
 ·rw [if_pos e10, if_pos e10]
  match l with
  | [] => rfl
  | _ :: _ => rfl
 rw [if_neg e10, if_neg e10]
 rfl
theorem parse_map (h : ∀ w, q (f w) = p w) (z : ω) : ∀ t : Tr ω, parse q (f z) (t.map f) = (parse p z t).map (Cmd.map f)
 | .leaf _ => rfl
 | .list [] => rfl
 | .list (a :: l) => by
  simp only [Tr.map, mapL, parse, symT_map h]
  cases symT p a with
  | none => rfl
  | some w =>
   simp only
   split
   ·match l with
    | [] => rfl
    | [_] => rfl
    | [a, r] => exact funB_map h z [a, .list [], r]
    | _ :: _ :: _ :: _ => rfl
   ·exact body_map h z _ l
end
section
variable {κ : Type} {k : κ → Int} {o c : κ}
def deepS : List (Tr κ) → Nat
 | [] => 0
 | t :: r => max (t.deep + 1) (deepS r)
theorem deepS_eq : ∀ l : List (Tr κ), max 1 (deepS l) = deepL l + 1
 | [] => rfl
 | t :: r => by
  have := deepS_eq r
  simp only [deepS, deepL]; omega
theorem flat_head {P : κ → Prop} (ho : k o = 1) (hP : ∀ w, P w → k w ≠ 1 ∧ k w ≠ 2) : ∀ t : Tr κ, t.all P → ∃ w r, flatT o c t = w :: r ∧ k w ≠ 2
 | .leaf w, h => ⟨w, [], rfl, (hP w h).2⟩
 | .list l, _ => ⟨o, flatL o c l ++ [c], rfl, by rw [ho]; decide⟩
mutual
theorem tree_flat {P : κ → Prop} (ho : k o = 1) (hc : k c = 2) (hP : ∀ w, P w → k w ≠ 1 ∧ k w ≠ 2) : ∀ (t : Tr κ) (rest : List κ) (N : Nat), t.all P → (flatT o c t).length ≤ N → treeR k N (flatT o c t ++ rest) = (t, rest, t.deep, true)
 | .leaf w, rest, N, h, hN => by
  simp only [flatT, List.length_cons, List.length_nil] at hN
  obtain ⟨N, rfl⟩ : ∃ M, N = M + 1 := ⟨N - 1, by omega⟩
  show treeR k (N + 1) (w :: rest) = _
  rw [treeR, if_neg (hP w h).1]
  rfl
 | .list l, rest, N, h, hN => by
  simp only [flatT, List.length_cons, List.length_append, List.length_nil] at hN
  obtain ⟨N, rfl⟩ : ∃ M, N = M + 1 := ⟨N - 1, by omega⟩
  have e : flatT o c (.list l) ++ rest = o :: (flatL o c l ++ c :: rest) := by
   show o :: (flatL o c l ++ [c]) ++ rest = _
   rw [List.cons_append, List.append_assoc]; rfl
  rw [e, treeR, if_pos ho, kids_flat ho hc hP l rest N [] 1 h (by omega)]
  have hd : max 1 (deepS l) = (Tr.list l).deep := by
   simp only [Tr.deep]
   have := deepS_eq l
   omega
  rw [hd]; rfl
theorem kids_flat {P : κ → Prop} (ho : k o = 1) (hc : k c = 2) (hP : ∀ w, P w → k w ≠ 1 ∧ k w ≠ 2) : ∀ (l : List (Tr κ)) (rest : List κ) (N : Nat) (acc : List (Tr κ)) (d : Nat), allL P l → (flatL o c l).length + 1 ≤ N →
  kidsR k N (flatL o c l ++ c :: rest) acc d = (.list (acc ++ l), rest, max d (deepS l), true)
 | [], rest, N, acc, d, _, hN => by
  obtain ⟨N, rfl⟩ : ∃ M, N = M + 1 := ⟨N - 1, by omega⟩
  show kidsR k (N + 1) (c :: rest) acc d = _
  rw [kidsR, if_pos hc, List.append_nil]
  have : max d (deepS ([] : List (Tr κ))) = d := by simp [deepS]
  rw [this]
 | t :: r, rest, N, acc, d, h, hN => by
  simp only [flatL, List.length_append] at hN
  have ht : 1 ≤ (flatT o c t).length := by cases t <;> simp [flatT]
  obtain ⟨N, rfl⟩ : ∃ M, N = M + 1 := ⟨N - 1, by omega⟩
  obtain ⟨w, u, hw, hw2⟩ := flat_head (c := c) ho hP t h.1
  have h1 := tree_flat ho hc hP t (flatL o c r ++ c :: rest) N h.1 (by omega)
  have h2 := kids_flat ho hc hP r rest N (acc ++ [t]) (max d (t.deep + 1)) h.2 (by omega)
  have e : flatL o c (t :: r) ++ c :: rest = flatT o c t ++ (flatL o c r ++ c :: rest) := by
   show (flatT o c t ++ flatL o c r) ++ c :: rest = _
   rw [List.append_assoc]
  rw [e]
  rw [hw, List.cons_append] at h1 ⊢
  rw [kidsR, if_neg hw2, h1]
  simp only [if_true]
  rw [h2]
  have hm : max (max d (t.deep + 1)) (deepS r) = max d (deepS (t :: r)) := by simp only [deepS]; omega
  rw [hm, List.append_assoc]; rfl
end
end
end Go.Lex

/-
 Commands of trees: what is written is read as it was: the plain law.
-/
namespace Go.Lex
open Go Go.Abs Go.Sexp
set_option maxRecDepth 20000
abbrev parseK : Tr Key → Option (Cmd Key) := parse id ((0, []) : Key)
theorem symT_is {t : Tr Key} {s : List UInt8} (h : symT id t = some s) : t = sK s := by
 cases t with
 | leaf w =>
  obtain ⟨k, x⟩ := w
  have h' : (if k = 3 then some x else none) = some s := h
  by_cases hk : k = 3
  ·rw [if_pos hk] at h'
   cases h'
   rw [hk]; rfl
  ·rw [if_neg hk] at h'; cases h'
 | list l => cases h
theorem isK_is {t : Tr Key} {k : Int} (h : isK id k t = true) : t = .leaf (k, txtT id t) := by
 cases t with
 | leaf w =>
  obtain ⟨j, x⟩ := w
  simp only [isK, id, beq_iff_eq] at h
  subst h
  rfl
 | list l => cases h
theorem symT_sK (s : List UInt8) : symT id (sK s) = some s := rfl
theorem isK_leaf (k : Int) (s : List UInt8) : isK id k (.leaf (k, s)) = true := by simp [isK]
theorem syms_is : ∀ {l : List (Tr Key)} {q : List (List UInt8)}, syms id l = some q → l = q.map sK
 | [], q, h => by cases h; rfl
 | t :: r, q, h => by
  simp only [syms] at h
  split at h
  ·rename_i s l h1 h2
   cases h
   rw [symT_is h1, syms_is h2]; rfl
  ·cases h
theorem parT_is {t : Tr Key} {q : List UInt8 × List UInt8} (h : parT id t = some q) : t = .list [sK q.1, sK q.2] := by
 unfold parT at h
 split at h
 ·split at h
  ·rename_i x y h1 h2
   cases h
   rw [symT_is h1, symT_is h2]
  ·cases h
 ·cases h
theorem pars_is : ∀ {l : List (Tr Key)} {acc q : List (List UInt8 × List UInt8)}, pars id l acc = some q → ∃ r, q = acc ++ r ∧ l = r.map fun q => .list [sK q.1, sK q.2]
 | [], acc, q, h => by cases h; exact ⟨[], by simp, rfl⟩
 | t :: r, acc, q, h => by
  simp only [pars] at h
  split at h
  ·rename_i u hu
   split at h
   ·cases h
   ·obtain ⟨r', h1, h2⟩ := pars_is h
    exact ⟨u :: r', by rw [h1, List.append_assoc]; rfl, by rw [parT_is hu, h2]; rfl⟩
  ·cases h
theorem kindOf_le (w : List UInt8) : kindOf w ≤ 15 := by
 unfold kindOf
 split
 ·rename_i i h
  have := (List.findIdx?_eq_some_iff_getElem.1 h).1
  have e : nmList.length = 15 := rfl
  omega
 ·exact Nat.zero_le _
theorem kindOf_name {w : List UInt8} (h : kindOf w ≠ 0) : nameK (kindOf w) = w := by
 unfold kindOf at h ⊢
 split at h
 ·rename_i i hi
  obtain ⟨h1, h2, _⟩ := List.findIdx?_eq_some_iff_getElem.1 hi
  show ((nmList[i + 1 - 1]?).getD []) = w
  rw [Nat.add_sub_cancel, List.getElem?_eq_getElem h1]
  simpa using h2
 ·exact absurd rfl h
theorem kind_name : ∀ k, k < 16 → 0 < k → kindOf (nameK k) = k ∧ nameK k ≠ declConst := by decide +kernel
theorem num_itoa : ∀ n, n < 1001 → numK (itoaK n) = some n := by decide +kernel
theorem parse_name {k : Nat} (h0 : 0 < k) (h1 : k < 16) (l : List (Tr Key)) : parseK (.list (sK (nameK k) :: l)) = body id (0, []) k l := by
 obtain ⟨e1, e2⟩ := kind_name k h1 h0
 simp only [parseK, parse, symT_sK, if_neg e2, e1]
def Form (t : Tr Key) (c : Cmd Key) : Prop := treeK c = t ∨ ∃ a l l', t = .list (a :: l) ∧ treeK c = .list (sK (nameK c.kind) :: l') ∧ parseK (treeK c) = some c ∧ 0 < c.kind ∧ c.kind < 16 ∧ l'.length ≤ 3 ∧ ∀ x ∈ l', x ∈ l ∨ x = .list [] ∨ ∃ i, i ≤ 1000 ∧ x = .leaf (5, itoaK i)
theorem sortB_form {l : List (Tr Key)} {c : Cmd Key} (h : sortB id (0, []) l = some c) : Form (.list (sK (nameK 4) :: l)) c := by
 unfold sortB at h
 have key : ∀ a s, symT id a = some s → Form (.list (sK (nameK 4) :: l)) { c0 ((0, []) : Key) 4 with name := s } ∨ a ∉ l := by
  intro a s hs
  by_cases ha : a ∈ l
  ·refine .inl (.inr ⟨_, l, [sK s, .leaf (5, [48])], rfl, rfl, ?_, Nat.zero_lt_succ 3, show 4 < 16 by decide, by simp, fun x hx => ?_⟩)
   ·show parseK (.list (sK (nameK 4) :: [sK s, .leaf (5, [48])])) = _
    rw [parse_name (by decide) (by decide)]
    show (if isK id 5 (.leaf ((5, [48]) : Key)) = true ∧ numK (txtT id (.leaf ((5, [48]) : Key))) = some 0 then (symT id (sK s)).map (fun s => { c0 ((0, []) : Key) 4 with name := s }) else none) = _
    rw [if_pos ⟨isK_leaf _ _, by decide +kernel⟩]
    rfl
   ·rcases List.mem_cons.1 hx with rfl | hx
    ·rw [symT_is hs] at ha; exact .inl ha
    ·rcases List.mem_cons.1 hx with rfl | hx
     ·exact .inr (.inr ⟨0, by omega, rfl⟩)
     ·cases hx
  ·exact .inr ha
 split at h
 ·rename_i a
  obtain ⟨s, hs, rfl⟩ := Option.map_eq_some_iff.1 h
  exact (key a s hs).resolve_right (by simp)
 ·rename_i a b
  split at h
  ·obtain ⟨s, hs, rfl⟩ := Option.map_eq_some_iff.1 h
   exact (key a s hs).resolve_right (by simp)
  ·cases h
 ·cases h
theorem levB_form {k : Nat} (hk : k = 8 ∨ k = 9) {l : List (Tr Key)} {c : Cmd Key} (h : levB id (0, []) k l = some c) : Form (.list (sK (nameK k) :: l)) c := by
 have key : ∀ i, i ≤ 1000 → Form (.list (sK (nameK k) :: l)) { c0 ((0, []) : Key) k with n := i } := by
  intro i hi
  refine .inr ⟨_, l, [.leaf (5, itoaK i)], rfl, ?_, ?_, ?_, ?_, by simp, fun x hx => ?_⟩
  ·rcases hk with rfl | rfl <;> rfl
  ·have e : treeK { c0 ((0, []) : Key) k with n := i } = .list (sK (nameK k) :: [.leaf (5, itoaK i)]) := by rcases hk with rfl | rfl <;> rfl
   rw [e, parse_name (by omega) (by omega)]
   have e2 : body id ((0, []) : Key) k [.leaf (5, itoaK i)] = levB id (0, []) k [.leaf (5, itoaK i)] := by rcases hk with rfl | rfl <;> rfl
   rw [e2]
   show (if isK id 5 (.leaf ((5, itoaK i) : Key)) = true then (numK (txtT id (.leaf ((5, itoaK i) : Key)))).map (fun i => { c0 ((0, []) : Key) k with n := i }) else none) = _
   have e3 : numK (txtT id (.leaf ((5, itoaK i) : Key))) = some i := num_itoa i (by omega)
   rw [if_pos (isK_leaf _ _), e3]; rfl
  ·show 0 < k; omega
  ·show k < 16; omega
  ·rcases List.mem_cons.1 hx with rfl | hx
   ·exact .inr (.inr ⟨i, hi, rfl⟩)
   ·cases hx
 unfold levB at h
 split at h
 ·cases h
  exact key 1 (by decide)
 ·split at h
  ·obtain ⟨i, hi, rfl⟩ := Option.map_eq_some_iff.1 h
   refine key i ?_
   unfold numK at hi
   split at hi
   ·rename_i hc
    cases hi
    exact hc.2.2.2
   ·cases hi
  ·cases h
 ·cases h
theorem funB_form {l : List (Tr Key)} {c : Cmd Key} (h : funB id (0, []) l = some c) : treeK c = .list (sK (nameK 5) :: l) ∧ c.kind = 5 := by
 unfold funB at h
 split at h
 ·split at h
  ·rename_i h1 h2 h3
   cases h
   rw [symT_is h1, symT_is h3, syms_is h2]
   refine ⟨?_, rfl⟩
   show Tr.list (sK (nameK 5) :: [_, _, _]) = _
   simp only [List.map_map]
   rfl
  ·cases h
 ·cases h
theorem form_body {k : Nat} (h0 : 0 < k) (h1 : k < 16) {l : List (Tr Key)} (hz : allL (fun w => w.1 ≠ 0) l) {c : Cmd Key} (h : body id (0, []) k l = some c) : Form (.list (sK (nameK k) :: l)) c := by
 unfold body at h
 by_cases e1 : k = 1
 ·rw [if_pos e1] at h
  subst e1
  split at h
  ·obtain ⟨s, hs, rfl⟩ := Option.map_eq_some_iff.1 h
   rw [symT_is hs]; exact .inl rfl
  ·cases h
 rw [if_neg e1] at h
 by_cases e2 : k = 2 ∨ k = 3
 ·rw [if_pos e2] at h
  unfold setB at h
  split at h
  ·split at h
   ·rename_i a hc
    obtain ⟨ha, rfl⟩ := hc
    cases h
    left
    show Tr.list [sK (nameK 3), .leaf (4, txtT id a)] = _
    rw [← isK_is ha]
   ·cases h
  ·split at h
   ·rename_i a b ha
    cases h
    left
    have hb : noneK b = false := by
     cases b with
     | leaf w => have := hz.2.1; simpa [noneK, Tr.all] using this
     | list _ => rfl
    rcases e2 with rfl | rfl
    ·show Tr.list [sK (nameK 2), .leaf (4, txtT id a), b] = _
     rw [← isK_is ha]
    ·show Tr.list (sK (nameK 3) :: (if noneK b = true then [.leaf (4, txtT id a)] else [.leaf (4, txtT id a), b])) = _
     rw [hb, ← isK_is ha]; rfl
   ·cases h
  ·cases h
 rw [if_neg e2] at h
 by_cases e4 : k = 4
 ·rw [if_pos e4] at h; subst e4; exact sortB_form h
 rw [if_neg e4] at h
 by_cases e5 : k = 5
 ·rw [if_pos e5] at h; subst e5; exact .inl (funB_form h).1
 rw [if_neg e5] at h
 by_cases e6 : k = 6
 ·rw [if_pos e6] at h
  subst e6
  unfold defB at h
  split at h
  ·split at h
   ·rename_i h1 h2 h3
    cases h
    obtain ⟨r, hr1, hr2⟩ := pars_is h2
    rw [List.nil_append] at hr1
    subst hr1
    left
    rw [symT_is h1, symT_is h3, hr2]; rfl
   ·cases h
  ·cases h
 rw [if_neg e6] at h
 by_cases e7 : k = 7
 ·rw [if_pos e7] at h
  subst e7
  split at h
  ·cases h; exact .inl rfl
  ·cases h
 rw [if_neg e7] at h
 by_cases e8 : k = 8 ∨ k = 9
 ·rw [if_pos e8] at h; exact levB_form e8 h
 rw [if_neg e8] at h
 by_cases e12 : k = 12
 ·rw [if_pos e12] at h
  subst e12
  unfold valB at h
  split at h
  ·cases h; exact .inl rfl
  ·cases h
 rw [if_neg e12] at h
 by_cases e13 : k = 13
 ·rw [if_pos e13] at h
  subst e13
  split at h
  ·split at h
   ·rename_i a ha
    cases h
    left
    show Tr.list [sK (nameK 13), .leaf (7, txtT id a)] = _
    rw [← isK_is ha]
   ·cases h
  ·cases h
 rw [if_neg e13] at h
 by_cases e10 : k = 10 ∨ k = 11 ∨ k = 14 ∨ k = 15
 ·rw [if_pos e10] at h
  split at h
  ·cases h
   left
   rcases e10 with rfl | rfl | rfl | rfl <;> rfl
  ·cases h
 rw [if_neg e10] at h
 cases h
theorem form_is {t : Tr Key} {c : Cmd Key} (h : parseK t = some c) (hz : t.all (fun w => w.1 ≠ 0)) : Form t c := by
 match t, h with
 | .list (a :: l), h =>
  simp only [parseK, parse] at h
  split at h
  ·rename_i w hw
   have ha := symT_is hw
   subst ha
   split at h
   · -- a constant
    unfold constB at h
    split at h
    ·rename_i a r
     obtain ⟨e1, e2⟩ := funB_form h
     refine .inr ⟨_, _, [a, .list [], r], rfl, by rw [e2]; exact e1, ?_, by omega, by omega, by simp, fun x hx => ?_⟩
     ·rw [e1, parse_name (by decide) (by decide)]; exact h
     ·rcases List.mem_cons.1 hx with rfl | hx
      ·exact .inl (by simp)
      ·rcases List.mem_cons.1 hx with rfl | hx
       ·exact .inr (.inl rfl)
       ·rcases List.mem_cons.1 hx with rfl | hx
        ·exact .inl (by simp)
        ·cases hx
    ·cases h
   ·have h0 : kindOf w ≠ 0 := fun e => by rw [e] at h; simp [body] at h
    have h1 := kindOf_le w
    have h2 := kindOf_name h0
    have := form_body (k := kindOf w) (by omega) (by omega) hz.2 h
    rw [h2] at this
    exact this
  ·cases h
end Go.Lex

/-
 The trees of a text: the plain law.
-/
namespace Go.Lex
open Go Go.Abs Go.Sexp
set_option maxRecDepth 20000
theorem treeR_lt {ω : Type} (k : ω → Int) : ∀ (n : Nat) (w : ω) (ws : List ω), (treeR k (n + 1) (w :: ws)).2.1.length ≤ ws.length := fun n w ws => by
 rw [treeR]
 split
 ·exact (treeR_short k n).2.2.2 ws [] 1
 ·exact Nat.le_refl _
theorem nextR_lt {ω : Type} (k : ω → Int) (m n : Nat) (w : ω) (ws : List ω) : (nextR k m (n + 1) (w :: ws)).2.1.length ≤ ws.length := by
 have h := treeR_lt k n w ws
 unfold nextR
 dsimp only
 split
 ·exact Nat.le_refl _
 ·split
  ·exact h
  ·split <;> exact h
def treesR {ω : Type} (k : ω → Int) (n : Nat) : Nat → List ω → List (Tr ω)
 | 0, _ => []
 | _ + 1, [] => []
 | f + 1, w :: ws => match nextR k 200 n (w :: ws) with
  | (some t, r, _) => t :: treesR k n f r
  | (none, r, _) => treesR k n f r
def treesO (ws : List Wd) : List (Tr Wd) := treesR Wd.kind (2 * ws.length + 1) (ws.length + 1) ws
theorem wgtL_suffix {a b : List Key} (h : a <:+ b) : wgtL a ≤ wgtL b := by
 obtain ⟨p, rfl⟩ := h
 rw [wgtL_append]; omega
def GoodT (n : Nat) (t : Tr Wd) : Prop := t.deep ≤ 200 ∧ t.size ≤ n ∧ (t.map key).all RdK ∧ (showK (t.map key)).length ≤ 2 * n
theorem size_next {k : Wd → Int} {n : Nat} {ws r : List Wd} {t : Tr Wd} {e : Nat} (h : nextR k 200 n ws = (some t, r, e)) : t.size ≤ ws.length := by
 obtain ⟨a1, a2, a3, _, _⟩ := next_some k h
 have hs := (size_tree k n).1 ws a1
 rw [a2, a3] at hs
 have hx := nextR_suffix k 200 n ws
 rw [h] at hx
 obtain ⟨p, hp⟩ := hx
 dsimp only at hp
 have h1 : ∀ p : List Wd, opens k r ≤ opens k (p ++ r) := fun p => by
  induction p with
  | nil => exact Nat.le_refl _
  | cons w p ih => simp only [List.cons_append, opens]; omega
 have h2 := h1 p
 rw [hp] at h2
 have h3 : r.length ≤ ws.length := by rw [← hp, List.length_append]; omega
 omega
theorem good_next {n : Nat} {ws r : List Wd} {t : Tr Wd} {e : Nat} (hg : ∀ w ∈ ws, GoodK (key w)) (h : nextR Wd.kind 200 n ws = (some t, r, e)) :
  t.deep ≤ 200 ∧ (t.map key).all RdK ∧ (showK (t.map key)).length ≤ wgtL (ws.map key) + ws.length := by
 obtain ⟨a1, a2, a3, a4, _⟩ := next_some Wd.kind h
 have hd := (deep_tree Wd.kind n).1 ws a1
 rw [a2] at hd
 have hk : ∀ w : Wd, Prod.fst (key w) = w.kind := fun _ => rfl
 have hm := (treeR_map (k := Wd.kind) (k' := Prod.fst) (f := key) hk n).1 ws
 rw [a2, a3] at hm
 have hf : ∀ w r', ws.map key = w :: r' → Prod.fst w ≠ 2 := by
  intro w r' he h2
  cases ws with
  | nil => cases he
  | cons u us =>
   cases he
   have : u.kind = 2 := h2
   unfold nextR at h
   dsimp only at h
   rw [if_pos this] at h
   cases h
 obtain ⟨b1, b2⟩ := (treeR_flat (k' := Prod.fst) (o := kO) (c := kC) (P := RdK) n).1 (ws.map key) (fun w hw => by
  obtain ⟨u, hu, rfl⟩ := List.mem_map.1 hw
  exact hg u hu) hf (by rw [hm]; exact a1)
 rw [hm] at b1 b2
 dsimp only at b1 b2
 have h1 := show_len _ b2
 have h2 := congrArg wgtL b1
 rw [wgtL_append] at h2
 have h3 := congrArg List.length b1
 rw [List.length_append, List.length_map] at h3
 exact ⟨by omega, b2, by omega⟩
theorem good_trees {n : Nat} : ∀ (f : Nat) (ws : List Wd), (∀ w ∈ ws, GoodK (key w)) → ∀ t ∈ treesR Wd.kind n f ws, t.deep ≤ 200 ∧ t.size ≤ ws.length ∧ (t.map key).all RdK ∧ (showK (t.map key)).length ≤ wgtL (ws.map key) + ws.length
 | 0, _, _, t, h => by cases h
 | f + 1, [], _, t, h => by cases h
 | f + 1, w :: ws, hg, t, h => by
  rw [treesR] at h
  have hs := nextR_suffix Wd.kind 200 n (w :: ws)
  rcases hx : nextR Wd.kind 200 n (w :: ws) with ⟨o, r, e⟩
  rw [hx] at h hs
  dsimp only at hs
  have hrec : ∀ t ∈ treesR Wd.kind n f r, t.deep ≤ 200 ∧ t.size ≤ (w :: ws).length ∧ (t.map key).all RdK ∧ (showK (t.map key)).length ≤ wgtL ((w :: ws).map key) + (w :: ws).length := fun t ht => by
   obtain ⟨c1, c2, c3, c4⟩ := good_trees f r (fun x hx => hg x (hs.subset hx)) t ht
   have h1 := hs.length_le
   have h2 := wgtL_suffix (hs.map key)
   exact ⟨c1, by omega, c3, by omega⟩
  cases o with
  | none => exact hrec t h
  | some t0 =>
   rcases List.mem_cons.1 h with rfl | h
   ·obtain ⟨b1, b2, b3⟩ := good_next hg hx
    exact ⟨b1, size_next hx, b2, b3⟩
   ·exact hrec t h
def wordsT (s : List UInt8) : List Wd := (allS s).1
theorem wordsT_some {s : List UInt8} (hs : s.length ≤ 65536) {ws : List Wd} (h : lexL s.length s = some ws) : wordsT s = ws := by
 unfold wordsT allS
 rw [if_neg (by omega), h]
theorem wordsT_none {s : List UInt8} (h : lexL s.length s = none) : wordsT s = [] := by
 unfold wordsT allS
 split
 ·rfl
 ·rw [h]
theorem wordsT_len {s : List UInt8} (hs : s.length ≤ 65536) : (wordsT s).length ≤ s.length := by
 cases h : lexL s.length s with
 | none => rw [wordsT_none h]; exact Nat.zero_le _
 | some ws => rw [wordsT_some hs h]; exact (lex_good _ _ s ws (Nat.lt_succ_self _) h).2.2
theorem trees_good {s : List UInt8} (hs : s.length ≤ 65536) : ∀ t ∈ treesO (wordsT s), GoodT s.length t := by
 intro t ht
 cases hx : lexL s.length s with
 | none => rw [wordsT_none hx] at ht; cases ht
 | some ws =>
  rw [wordsT_some hs hx] at ht
  obtain ⟨g1, g2, g3⟩ := lex_good _ _ s ws (Nat.lt_succ_self _) hx
  obtain ⟨b1, b2, b3, b4⟩ := good_trees _ ws g1 t ht
  exact ⟨b1, by omega, b3, by omega⟩
theorem show_read {l : List (Tr Key)} (h : (Tr.list l).all RdK) (hd : (Tr.list l).deep ≤ 200) (hl : (showK (.list l)).length ≤ 65536) :
  ∃ t : Tr Wd, treesO (wordsT (showK (.list l))) = [t] ∧ t.map key = .list l := by
 generalize hN : (showK (Tr.list l)).length = N at hl
 obtain ⟨f, e1, e2⟩ := lex_kids N l [] h
 obtain ⟨i, hi⟩ := lex_open (N := N) (showKL l ++ [41])
 obtain ⟨j, hj⟩ := lex_close (N := N) []
 have hn : lexL N [] = some [] := by rw [lexL_eq]; rfl
 have hlex : lexL N (showK (.list l)) = some (⟨1, [], i⟩ :: (f ++ [⟨2, [], j⟩])) := by
  show lexL N (40 :: (showKL l ++ [41])) = _
  rw [hi, e1, hj, hn]; rfl
 have hw : wordsT (showK (.list l)) = ⟨1, [], i⟩ :: (f ++ [⟨2, [], j⟩]) := wordsT_some (by omega) (by rw [hN]; exact hlex)
 rw [hw]
 have hkeys : (⟨1, [], i⟩ :: (f ++ [⟨2, [], j⟩]) : List Wd).map key = flatT kO kC (.list l) := by
  rw [List.map_cons, List.map_append, e2]; rfl
 generalize (⟨1, [], i⟩ :: (f ++ [⟨2, [], j⟩]) : List Wd) = ws at hkeys
 have hlen : ws.length = (flatT kO kC (.list l)).length := by rw [← hkeys, List.length_map]
 have hk : ∀ w : Wd, Prod.fst (key w) = w.kind := fun _ => rfl
 have hP : ∀ w : Key, RdK w → Prod.fst w ≠ 1 ∧ Prod.fst w ≠ 2 := fun w h => ⟨h.1, h.2.1⟩
 have ht := tree_flat (k := Prod.fst) (o := kO) (c := kC) (P := RdK) rfl rfl hP (.list l) [] (2 * ws.length + 1) h (by omega)
 rw [List.append_nil] at ht
 have hx : nextR Prod.fst 200 (2 * ws.length + 1) (flatT kO kC (.list l)) = (some (.list l), [], 0) := by
  have e : flatT kO kC (.list l) = kO :: (flatL kO kC l ++ [kC]) := rfl
  rw [e] at ht ⊢
  unfold nextR
  dsimp only
  rw [if_neg (show ¬ (kO.1 = 2) by decide), ht]
  dsimp only
  rw [if_neg (by omega)]
  simp
 have hm := nextR_map (k := Wd.kind) (k' := Prod.fst) (f := key) hk 200 (2 * ws.length + 1) ws
 rw [hkeys, hx] at hm
 rcases hy : nextR Wd.kind 200 (2 * ws.length + 1) ws with ⟨o, r, e⟩
 rw [hy] at hm
 simp only [Prod.mk.injEq] at hm
 obtain ⟨h1, h2, h3⟩ := hm
 cases o with
 | none => cases h1
 | some t =>
  simp only [Option.map_some, Option.some.injEq] at h1
  have hr : r = [] := List.map_eq_nil_iff.1 h2.symm
  subst hr
  refine ⟨t, ?_, h1.symm⟩
  cases ws with
  | nil => simp [flatT] at hlen
  | cons w ws' =>
   unfold treesO
   rw [treesR, hy]
   dsimp only
   rw [List.length_cons, treesR]
end Go.Lex

/-
 Commands of a text's trees, written and read again: the plain law.
-/
namespace Go.Lex
open Go Go.Abs Go.Sexp
set_option maxRecDepth 20000
def rdB (kd : Int) (t : List UInt8) : Bool := match wrW kd t with
 | c :: r => !isBlank c && c != 59 && eqP 5 (wordS (c :: r)).1 (okW kd t).1 && (wordS (c :: r)).2.isEmpty
 | [] => false
theorem rdB_ok {kd : Int} {t : List UInt8} (h : rdB kd t = true) : Reads kd t := by
 unfold rdB at h
 split at h
 ·rename_i c r hc
  simp only [Bool.and_eq_true, Bool.not_eq_true', bne_iff_ne] at h
  obtain ⟨⟨⟨h1, h2⟩, h3⟩, h4⟩ := h
  refine ⟨c, r, hc, h1, h2, ?_⟩
  have h5 : (wordS (c :: r)).1 = (okW kd t).1 := eqP_ok 5 _ _ h3
  have h6 : (wordS (c :: r)).2 = [] := List.isEmpty_iff.1 h4
  exact Prod.ext h5 h6
 ·cases h
theorem itoa_reads : ∀ i, i < 1001 → rdB 5 (itoaK i) = true ∧ (itoaK i).length ≤ 4 := by decide +kernel
theorem name_reads : ∀ k, k < 16 → 0 < k → rdB 3 (nameK k) = true ∧ (wrW 3 (nameK k)).length ≤ 12 := by decide +kernel
theorem rd_itoa {i : Nat} (h : i ≤ 1000) : RdK (5, itoaK i) := ⟨show (5 : Int) ≠ 1 by decide, show (5 : Int) ≠ 2 by decide, rdB_ok (itoa_reads i (by omega)).1⟩
theorem rd_name {k : Nat} (h0 : 0 < k) (h1 : k < 16) : RdK (3, nameK k) := ⟨show (3 : Int) ≠ 1 by decide, show (3 : Int) ≠ 2 by decide, rdB_ok (name_reads k h1 h0).1⟩
theorem allK_mem {P : Key → Prop} {l : List (Tr Key)} : allL P l ↔ (∀ x ∈ l, x.all P) := by
 induction l with
 | nil => exact ⟨fun _ x h => (by cases h), fun _ => trivial⟩
 | cons a l ih =>
  simp only [allL, ih]
  constructor
  ·rintro ⟨h1, h2⟩ x hx
   rcases List.mem_cons.1 hx with rfl | hx
   ·exact h1
   ·exact h2 x hx
  ·exact fun h => ⟨h a (by simp), fun x hx => h x (by simp [hx])⟩
theorem deepL_le {n : Nat} : ∀ {l : List (Tr Key)}, (∀ x ∈ l, x.deep ≤ n) → deepL l ≤ n
 | [], _ => Nat.zero_le _
 | a :: l, h => by
  have h1 := h a (by simp)
  have h2 := deepL_le (l := l) fun x hx => h x (by simp [hx])
  simp only [deepL]; omega
theorem deepK_mem {l : List (Tr Key)} {x : Tr Key} (h : x ∈ l) : x.deep ≤ deepL l := by
 induction l with
 | nil => cases h
 | cons a l ih =>
  simp only [deepL]
  rcases List.mem_cons.1 h with rfl | h
  ·omega
  ·have := ih h; omega
theorem tailK_mem {l : List (Tr Key)} {x : Tr Key} (h : x ∈ l) : (showK x).length ≤ (showTail l).length := by
 induction l with
 | nil => cases h
 | cons a l ih =>
  simp only [showTail, List.length_cons, List.length_append]
  rcases List.mem_cons.1 h with rfl | h
  ·omega
  ·have := ih h; omega
theorem tail_le {n : Nat} : ∀ {l : List (Tr Key)}, (∀ x ∈ l, (showK x).length ≤ n) → (showTail l).length ≤ l.length * (n + 1)
 | [], _ => by simp [showTail]
 | a :: l, h => by
  have h1 := h a (by simp)
  have h2 := tail_le (l := l) fun x hx => h x (by simp [hx])
  simp only [showTail, List.length_cons, List.length_append, Nat.add_mul]; omega
theorem kd_pos {c : UInt8} {r rest : List UInt8} {kd : Int} {t : List UInt8} (h : wordS (c :: r) = (.tup [wordV kd t 0, .bool true], rest)) : kd ≠ 0 := by
 have key : (ansK (wordS (c :: r)).1).2.2 = true → (ansK (wordS (c :: r)).1).1 ≠ 0 := by
  simp only [wordS]
  split
  ·intro _; simp [ansK, wordV]
  split
  ·intro _; simp [ansK, wordV]
  split
  ·unfold texS
   split <;> simp [ansK, wordV]
  split
  ·unfold quoS
   split
   ·simp [ansK, wordV]
   ·split <;> simp [ansK, wordV]
  split
  ·intro _; simp [ansK, wordV]
  split
  ·unfold numS
   dsimp only
   split
   ·split <;> simp [ansK, wordV]
   ·simp [ansK, wordV]
  ·simp [ansK, wordV]
 rw [h] at key
 exact key rfl
theorem rd_nonzero {w : Key} (h : RdK w) : w.1 ≠ 0 := by
 obtain ⟨_, _, c, r, _, _, _, h6⟩ := h
 exact kd_pos (rest := []) h6
mutual
theorem all_mono {P Q : Key → Prop} (hPQ : ∀ w, P w → Q w) : ∀ t : Tr Key, t.all P → t.all Q
 | .leaf w, h => hPQ w h
 | .list l, h => allL_mono hPQ l h
theorem allL_mono {P Q : Key → Prop} (hPQ : ∀ w, P w → Q w) : ∀ l : List (Tr Key), allL P l → allL Q l
 | [], _ => trivial
 | t :: r, h => ⟨all_mono hPQ t h.1, allL_mono hPQ r h.2⟩
end
mutual
theorem deep_mapK (f : Wd → Key) : ∀ t : Tr Wd, (t.map f).deep = t.deep
 | .leaf _ => rfl
 | .list l => by simp only [Tr.map, Tr.deep, deepL_mapK f l]
theorem deepL_mapK (f : Wd → Key) : ∀ l : List (Tr Wd), deepL (mapL f l) = deepL l
 | [] => rfl
 | t :: l => by simp only [mapL, deepL, deep_mapK f t, deepL_mapK f l]
end
theorem form_good {t : Tr Key} {c : Cmd Key} (h : parseK t = some c) (ha : t.all RdK) (hd : t.deep ≤ 200) :
  (treeK c).all RdK ∧ (treeK c).deep ≤ 200 ∧ (textK c).length ≤ 3 * (showK t).length + 60 := by
 rcases form_is h (all_mono (fun w hw => rd_nonzero hw) t ha) with e | ⟨a, l, l', e1, e2, _, k0, k1, e3, e4⟩
 ·unfold textK
  rw [e]; exact ⟨ha, hd, by omega⟩
 ·subst e1
  have hal : ∀ x ∈ l, x.all RdK := fun x hx => allK_mem.1 ha x (by simp [hx])
  have hdl : ∀ x ∈ l, x.deep ≤ 199 := fun x hx => by
   have := deepK_mem (show x ∈ a :: l by simp [hx])
   simp only [Tr.deep] at hd
   omega
  have hll : ∀ x ∈ l, (showK x).length ≤ (showK (.list (a :: l))).length := fun x hx => by
   have := tailK_mem hx
   show _ ≤ (40 :: (showK a ++ showTail l ++ [41])).length
   simp only [List.length_cons, List.length_append]; omega
  have hx' : ∀ x ∈ l', x.all RdK ∧ x.deep ≤ 199 ∧ (showK x).length ≤ (showK (.list (a :: l))).length + 4 := fun x hx => by
   rcases e4 x hx with hx | rfl | ⟨i, hi, rfl⟩
   ·exact ⟨hal x hx, hdl x hx, by have := hll x hx; omega⟩
   ·exact ⟨trivial, by decide, by have e : (showK (.list [])).length = 2 := rfl; omega⟩
   ·refine ⟨rd_itoa hi, Nat.zero_le _, ?_⟩
    have e : showK (.leaf (5, itoaK i)) = itoaK i := rfl
    have := (itoa_reads i (by omega)).2
    rw [e]; omega
  have hsh : (showK (sK (nameK c.kind))).length ≤ 12 := (name_reads c.kind k1 k0).2
  have htl := tail_le (l := l') fun x hx => (hx' x hx).2.2
  unfold textK
  rw [e2]
  refine ⟨⟨rd_name k0 k1, allK_mem.2 fun x hx => (hx' x hx).1⟩, ?_, ?_⟩
  ·have h1 := deepL_le (l := l') fun x hx => (hx' x hx).2.1
   have h2 : (sK (nameK c.kind)).deep = 0 := rfl
   simp only [Tr.deep, deepL, h2]; omega
  ·show (40 :: (showK (sK (nameK c.kind)) ++ showTail l' ++ [41])).length ≤ _
   simp only [List.length_cons, List.length_append, List.length_nil]
   have : l'.length * ((showK (.list (a :: l))).length + 4 + 1) ≤ 3 * ((showK (.list (a :: l))).length + 4 + 1) := Nat.mul_le_mul_right _ e3
   omega
end Go.Lex

/-
 Commands that were read are small: the plain law.
-/
namespace Go.Lex
open Go Go.Abs Go.Sexp
set_option maxRecDepth 20000
section
variable {ω : Type} {p : ω → Key} {z : ω}
theorem syms_len : ∀ {l : List (Tr ω)} {q : List (List UInt8)}, syms p l = some q → q.length = l.length
 | [], q, h => by cases h; rfl
 | t :: r, q, h => by
  simp only [syms] at h
  split at h
  ·rename_i s l h1 h2
   cases h
   simp only [List.length_cons, syms_len h2]
  ·cases h
theorem pars_len : ∀ {l : List (Tr ω)} {acc q : List (List UInt8 × List UInt8)}, pars p l acc = some q → q.length = acc.length + l.length
 | [], acc, q, h => by cases h; rfl
 | t :: r, acc, q, h => by
  simp only [pars] at h
  split at h
  ·split at h
   ·cases h
   ·have := pars_len h
    simp only [List.length_append, List.length_cons, List.length_nil] at this ⊢
    omega
  ·cases h
theorem numK_le {s : List UInt8} {n : Nat} (h : numK s = some n) : n ≤ 1000 := by
 unfold numK at h
 split at h
 ·rename_i hc
  cases h
  exact hc.2.2.2
 ·cases h
theorem lenT_size : ∀ l : List (Tr ω), l.length ≤ sizeL l
 | [] => Nat.le_refl _
 | .leaf _ :: l => by have := lenT_size l; simp only [sizeL, Tr.size, List.length_cons]; omega
 | .list _ :: l => by have := lenT_size l; simp only [sizeL, Tr.size, List.length_cons]; omega
def SmallC (N : Nat) (c : Cmd ω) : Prop := 1 ≤ c.kind ∧ c.kind ≤ 15 ∧ c.n ≤ 1000 ∧ c.params.length ≤ N
theorem fun_small {l : List (Tr ω)} {c : Cmd ω} (h : funB p z l = some c) : SmallC (sizeL l) c := by
 unfold funB at h
 split at h
 ·rename_i a ks r
  split at h
  ·rename_i s q u h1 h2 h3
   cases h
   have := syms_len h2
   have := lenT_size ks
   exact ⟨show 1 ≤ 5 by decide, show 5 ≤ 15 by decide, Nat.zero_le _, by simp only [List.length_map, sizeL, Tr.size]; omega⟩
  ·cases h
 ·cases h
theorem body_small {k : Nat} (hk : k ≤ 15) {l : List (Tr ω)} {c : Cmd ω} (h : body p z k l = some c) : SmallC (sizeL l) c := by
 unfold body at h
 split at h
 ·split at h
  ·obtain ⟨s, _, rfl⟩ := Option.map_eq_some_iff.1 h
   exact ⟨show 1 ≤ 1 by decide, show 1 ≤ 15 by decide, Nat.zero_le _, Nat.zero_le _⟩
  ·cases h
 split at h
 ·unfold setB at h
  split at h
  ·split at h
   ·cases h; rename_i h1 h2; exact ⟨show 1 ≤ k by omega, hk, Nat.zero_le _, Nat.zero_le _⟩
   ·cases h
  ·split at h
   ·cases h; rename_i h1 a b h2; exact ⟨show 1 ≤ k by omega, hk, Nat.zero_le _, Nat.zero_le _⟩
   ·cases h
  ·cases h
 split at h
 ·unfold sortB at h
  split at h
  ·obtain ⟨s, _, rfl⟩ := Option.map_eq_some_iff.1 h
   exact ⟨show 1 ≤ 4 by decide, show 4 ≤ 15 by decide, Nat.zero_le _, Nat.zero_le _⟩
  ·split at h
   ·obtain ⟨s, _, rfl⟩ := Option.map_eq_some_iff.1 h
    exact ⟨show 1 ≤ 4 by decide, show 4 ≤ 15 by decide, Nat.zero_le _, Nat.zero_le _⟩
   ·cases h
  ·cases h
 split at h
 ·exact fun_small h
 split at h
 ·unfold defB at h
  split at h
  ·rename_i a ks r t
   split at h
   ·rename_i s q u h1 h2 h3
    cases h
    have h4 := pars_len h2
    have := lenT_size ks
    exact ⟨show 1 ≤ 6 by decide, show 6 ≤ 15 by decide, Nat.zero_le _, by simp only [sizeL, Tr.size, List.length_nil] at h4 ⊢; omega⟩
   ·cases h
  ·cases h
 split at h
 ·split at h
  ·cases h; exact ⟨show 1 ≤ 7 by decide, show 7 ≤ 15 by decide, Nat.zero_le _, Nat.zero_le _⟩
  ·cases h
 split at h
 ·unfold levB at h
  split at h
  ·cases h; exact ⟨show 1 ≤ k by omega, hk, show 1 ≤ 1000 by decide, Nat.zero_le _⟩
  ·split at h
   ·obtain ⟨i, hi, rfl⟩ := Option.map_eq_some_iff.1 h
    exact ⟨show 1 ≤ k by omega, hk, numK_le hi, Nat.zero_le _⟩
   ·cases h
  ·cases h
 split at h
 ·unfold valB at h
  split at h
  ·cases h; exact ⟨show 1 ≤ 12 by decide, show 12 ≤ 15 by decide, Nat.zero_le _, Nat.zero_le _⟩
  ·cases h
 split at h
 ·split at h
  ·split at h
   ·cases h; exact ⟨show 1 ≤ 13 by decide, show 13 ≤ 15 by decide, Nat.zero_le _, Nat.zero_le _⟩
   ·cases h
  ·cases h
 split at h
 ·split at h
  ·cases h; exact ⟨show 1 ≤ k by omega, hk, Nat.zero_le _, Nat.zero_le _⟩
  ·cases h
 ·cases h
theorem parse_small {t : Tr ω} {c : Cmd ω} (h : parse p z t = some c) : SmallC t.size c := by
 unfold parse at h
 split at h
 ·rename_i hd l
  have hsz : sizeL l ≤ (Tr.list (hd :: l)).size := by simp only [Tr.size, sizeL]; omega
  have key : SmallC (sizeL l) c := by
   split at h
   ·split at h
    ·unfold constB at h
     split at h
     ·rename_i a r
      have := fun_small h
      simp only [sizeL, Tr.size] at this ⊢
      have e : c.params = [] := by
       cases h1 : symT p a with
       | none => simp [funB, syms, h1] at h
       | some x => cases h2 : symT p r with
        | none => simp [funB, syms, h1, h2] at h
        | some y =>
         simp [funB, syms, h1, h2] at h
         rw [← h]
      exact ⟨this.1, this.2.1, this.2.2.1, by rw [e]; exact Nat.zero_le _⟩
     ·cases h
    ·exact body_small (kindOf_le _) h
   ·cases h
  exact ⟨key.1, key.2.1, key.2.2.1, Nat.le_trans key.2.2.2 hsz⟩
 ·cases h
end
end Go.Lex

/-
 Commands that were read have small trees: the plain law.
-/
namespace Go.Lex
open Go Go.Abs Go.Sexp
set_option maxRecDepth 20000
section
variable {ω : Type} {p : ω → Key} {z : ω}
def SizeC (N : Nat) (c : Cmd ω) : Prop := c.term.size ≤ N ∧ sizeL c.terms ≤ N
theorem size_pos (t : Tr ω) : 1 ≤ t.size := by cases t <;> simp only [Tr.size] <;> omega
theorem sizeC_mono {N M : Nat} {c : Cmd ω} (h : SizeC N c) (hm : N ≤ M) : SizeC M c := ⟨Nat.le_trans h.1 hm, Nat.le_trans h.2 hm⟩
theorem fun_sizes {l : List (Tr ω)} {c : Cmd ω} (h : funB p z l = some c) : SizeC 1 c := by
 unfold funB at h
 split at h
 ·split at h
  ·cases h; exact ⟨Nat.le_refl 1, Nat.zero_le _⟩
  ·cases h
 ·cases h
theorem body_sizes {k : Nat} {l : List (Tr ω)} {c : Cmd ω} (h : body p z k l = some c) : SizeC (sizeL l + 1) c := by
 have one : (1 : Nat) ≤ sizeL l + 1 := by omega
 unfold body at h
 split at h
 ·split at h
  ·obtain ⟨s, _, rfl⟩ := Option.map_eq_some_iff.1 h
   exact ⟨one, Nat.zero_le _⟩
  ·cases h
 split at h
 ·unfold setB at h
  split at h
  ·split at h
   ·cases h; exact ⟨one, Nat.zero_le _⟩
   ·cases h
  ·split at h
   ·cases h; exact ⟨by simp only [sizeL]; omega, Nat.zero_le _⟩
   ·cases h
  ·cases h
 split at h
 ·unfold sortB at h
  split at h
  ·obtain ⟨s, _, rfl⟩ := Option.map_eq_some_iff.1 h
   exact ⟨one, Nat.zero_le _⟩
  ·split at h
   ·obtain ⟨s, _, rfl⟩ := Option.map_eq_some_iff.1 h
    exact ⟨one, Nat.zero_le _⟩
   ·cases h
  ·cases h
 split at h
 ·exact sizeC_mono (fun_sizes h) one
 split at h
 ·unfold defB at h
  split at h
  ·split at h
   ·cases h
    exact ⟨by simp only [sizeL]; omega, Nat.zero_le _⟩
   ·cases h
  ·cases h
 split at h
 ·split at h
  ·cases h; exact ⟨by simp only [sizeL]; omega, Nat.zero_le _⟩
  ·cases h
 split at h
 ·unfold levB at h
  split at h
  ·cases h; exact ⟨one, Nat.zero_le _⟩
  ·split at h
   ·obtain ⟨i, hi, rfl⟩ := Option.map_eq_some_iff.1 h
    exact ⟨one, Nat.zero_le _⟩
   ·cases h
  ·cases h
 split at h
 ·unfold valB at h
  split at h
  ·cases h; exact ⟨one, by simp only [sizeL, Tr.size]; omega⟩
  ·cases h
 split at h
 ·split at h
  ·split at h
   ·cases h; exact ⟨one, Nat.zero_le _⟩
   ·cases h
  ·cases h
 split at h
 ·split at h
  ·cases h; exact ⟨one, Nat.zero_le _⟩
  ·cases h
 ·cases h
theorem parse_sizes {t : Tr ω} {c : Cmd ω} (h : parse p z t = some c) : SizeC t.size c := by
 unfold parse at h
 split at h
 ·rename_i hd l
  have hp := size_pos hd
  have hsz : sizeL l + 1 ≤ (Tr.list (hd :: l)).size := by simp only [Tr.size, sizeL]; omega
  refine sizeC_mono ?_ hsz
  split at h
  ·split at h
   ·unfold constB at h
    split at h
    ·exact sizeC_mono (fun_sizes h) (by omega)
    ·cases h
   ·exact body_sizes h
  ·cases h
 ·cases h
end
end Go.Lex

/-
 Texts of declarations and definitions, read: the plain law.
-/
namespace Go.Lex
open Go Go.Abs Go.Sexp
set_option maxRecDepth 20000
theorem one_keys {s : List UInt8} {t : Tr Wd} {u : Tr Key} (h : treesO (wordsT s) = [t]) (hu : t.map key = u) {c : Cmd Key} (hc : parseK u = some c) : ∃ c' : Cmd Wd, parse key ⟨0, [], 0⟩ t = some c' ∧ c'.map key = c := by
 have hm := parse_map (p := key) (q := id) (f := key) (fun _ => rfl) ⟨0, [], 0⟩ t
 rw [hu] at hm
 have hm' : parseK u = _ := hm
 rw [hc] at hm'
 obtain ⟨c', h1, h2⟩ := Option.map_eq_some_iff.1 hm'.symm
 exact ⟨c', h1, h2⟩
theorem none_keys {t : Tr Wd} {u : Tr Key} (hu : t.map key = u) (hc : parseK u = none) : parse key ⟨0, [], 0⟩ t = none := by
 have hm := parse_map (p := key) (q := id) (f := key) (fun _ => rfl) ⟨0, [], 0⟩ t
 rw [hu] at hm
 have hm' : parseK u = _ := hm
 rw [hc] at hm'
 exact Option.map_eq_none_iff.1 hm'.symm
def nmK (k : Nat) : List UInt8 := [110, UInt8.ofNat (48 + k)]
def realK : List UInt8 := [82, 101, 97, 108]
theorem nm_read : ∀ k, k < 10 → rdB 3 (nmK k) = true ∧ wrW 3 (nmK k) = nmK k := by decide +kernel
theorem rd_sym {s : List UInt8} (h : rdB 3 s = true) : RdK (3, s) := ⟨show (3 : Int) ≠ 1 by decide, show (3 : Int) ≠ 2 by decide, rdB_ok h⟩
def partK (df : Bool) (k : Nat) : Tr Key := if df = true then .list [sK (nmK k), sK realK] else sK (nmK k)
theorem part_ok {df : Bool} {k : Nat} (h : k < 10) : (partK df k).all RdK ∧ (partK df k).deep ≤ 1 ∧ showK (partK df k) = if df = true then 40 :: (nmK k ++ [32, 82, 101, 97, 108, 41]) else nmK k := by
 obtain ⟨h1, h2⟩ := nm_read k h
 cases df with
 | true =>
  refine ⟨⟨rd_sym h1, rd_sym (by decide +kernel), trivial⟩, by simp [partK, Tr.deep, deepL, sK], ?_⟩
  show 40 :: ((wrW 3 (nmK k) ++ (32 :: (wrW 3 realK ++ []))) ++ [41]) = _
  rw [h2, show wrW 3 realK = realK by decide +kernel]
  simp [realK]
 | false => exact ⟨rd_sym h1, Nat.zero_le _, h2⟩
theorem tail_snoc : ∀ (l : List (Tr Key)) (a : Tr Key), showTail (l ++ [a]) = showTail l ++ 32 :: showK a
 | [], a => by simp [showTail]
 | b :: l, a => by
  rw [List.cons_append, showTail, showTail, tail_snoc l a]
  simp
end Go.Lex

/-
 Texts of push and pop, read: the plain law.
-/
namespace Go.Lex
open Go Go.Abs Go.Sexp
set_option maxRecDepth 20000
theorem dg_byte : ∀ k, k < 10 → isDigit (UInt8.ofNat (48 + k)) = true ∧ (UInt8.ofNat (48 + k)).toNat - 48 = k ∧ (k ≠ 0 → (((UInt8.ofNat (48 + k)).toNat : Int) != 48) = true) := by decide +kernel
theorem decN_snoc (s : List UInt8) (c : UInt8) : decN (s ++ [c]) = decN s * 10 + (c.toNat - 48) := by
 unfold decN
 rw [List.foldl_append]; rfl
theorem dec_facts : ∀ n : Nat, (Lib.decDigits n).all isDigit = true ∧ decN (Lib.decDigits n) = n ∧ ∃ c r, Lib.decDigits n = c :: r ∧ isDigit c = true ∧ (n ≠ 0 → ((c.toNat : Int) != 48) = true) := by
 intro n
 induction n using Nat.strongRecOn with
 | _ n ih =>
  by_cases h : n < 10
  ·obtain ⟨d1, d2, d3⟩ := dg_byte n h
   have e : Lib.decDigits n = [UInt8.ofNat (48 + n)] := by rw [Lib.decDigits, dif_pos h]
   rw [e]
   refine ⟨by rw [List.all_cons, d1]; rfl, ?_, _, [], rfl, d1, d3⟩
   show 0 * 10 + ((UInt8.ofNat (48 + n)).toNat - 48) = n
   omega
  ·obtain ⟨d1, d2, d3⟩ := dg_byte (n % 10) (by omega)
   have e : Lib.decDigits n = Lib.decDigits (n / 10) ++ [UInt8.ofNat (48 + n % 10)] := by rw [Lib.decDigits, dif_neg h]
   obtain ⟨i1, i2, c, r, i3, i4, i5⟩ := ih (n / 10) (by omega)
   rw [e]
   refine ⟨by rw [List.all_append, i1, List.all_cons, d1]; rfl, ?_, c, r ++ [UInt8.ofNat (48 + n % 10)], by rw [i3]; rfl, i4, fun _ => i5 (by omega)⟩
   rw [decN_snoc, i2, d2]; omega
theorem digit_head {c : UInt8} (h : isDigit c = true) : isBlank c = false ∧ c ≠ 59 ∧ c ≠ 40 ∧ c ≠ 41 ∧ c ≠ 34 ∧ c ≠ 124 ∧ c ≠ 58 := sign_head (digit_is_sign h)
theorem reads_dec {n : Nat} (h0 : n ≠ 0) : Reads 5 (Lib.decDigits n) := by
 obtain ⟨h1, _, c, r, e, h2, h3⟩ := dec_facts n
 obtain ⟨k1, k2, k3, k4, k5, k6, k7⟩ := digit_head h2
 refine ⟨c, r, ?_, k1, k2, ?_⟩
 ·show (if (5 : Int) = 3 then _ else if (5 : Int) = 4 then _ else if (5 : Int) = 7 then _ else Lib.decDigits n) = _
  rw [if_neg (by decide), if_neg (by decide), if_neg (by decide), e]
 ·simp only [wordS]
  rw [if_neg k3, if_neg k4, if_neg k5, if_neg k6, if_neg k7, if_pos h2, ← e]
  obtain ⟨t1, t2⟩ := tk_all h1
  unfold numS
  simp only
  rw [t1, t2]
  have hn : numOk (Lib.decDigits n) = true := by
   unfold numOk
   rw [e]
   simp only [h3 h0, Bool.or_true]
  rw [hn]
  rfl
theorem rd_dec {n : Nat} (h0 : n ≠ 0) : RdK (5, Lib.decDigits n) := ⟨show (5 : Int) ≠ 1 by decide, show (5 : Int) ≠ 2 by decide, reads_dec h0⟩
theorem plain_neg (n : Nat) : isPlain (45 :: Lib.decDigits n) = true := by
 obtain ⟨h1, _, c, r, e, h2, _⟩ := dec_facts n
 have hs : (Lib.decDigits n).all isSign = true := List.all_eq_true.2 fun x hx => digit_is_sign (List.all_eq_true.1 h1 x hx)
 unfold isPlain
 rw [List.all_cons, hs]
 show (isSign 45 && true && !isDigit 45) = true
 decide
theorem rd_neg (n : Nat) : RdK (3, 45 :: Lib.decDigits n) ∧ wrW 3 (45 :: Lib.decDigits n) = 45 :: Lib.decDigits n := by
 obtain ⟨r1, r2, _⟩ := reads_symbol (t := 45 :: Lib.decDigits n) (.inl (plain_neg n))
 exact ⟨⟨show (3 : Int) ≠ 1 by decide, show (3 : Int) ≠ 2 by decide, r1⟩, r2 (plain_neg n)⟩
theorem num_big {n : Nat} (h : 1000 < n) : numK (Lib.decDigits n) = none := by
 unfold numK
 rw [if_neg]
 rintro ⟨_, _, _, h4⟩
 rw [(dec_facts n).2.1] at h4; omega
def levT (k : Nat) (x : List UInt8) : List UInt8 := 40 :: (nameK k ++ 32 :: (x ++ [41]))
theorem lev_names : ∀ k, k < 16 → 0 < k → wrW 3 (nameK k) = nameK k ∧ (nameK k).length ≤ 12 := by decide +kernel
theorem lev_read {k : Nat} (hk : k = 8 ∨ k = 9) {w : Key} (hw : RdK w) (hl : (wrW w.1 w.2).length ≤ 1000) :
  (levT k (wrW w.1 w.2)).length ≤ 1100 ∧ ∃ t : Tr Wd, treesO (wordsT (levT k (wrW w.1 w.2))) = [t] ∧ t.map key = .list [sK (nameK k), .leaf w] := by
 obtain ⟨n1, n2⟩ := lev_names k (by omega) (by omega)
 have e : levT k (wrW w.1 w.2) = showK (.list [sK (nameK k), .leaf w]) := by
  show _ = 40 :: ((wrW 3 (nameK k) ++ (32 :: (wrW w.1 w.2 ++ []))) ++ [41])
  rw [n1]; simp [levT]
 have hlen : (levT k (wrW w.1 w.2)).length ≤ 1100 := by
  unfold levT
  simp only [List.length_cons, List.length_append, List.length_nil]; omega
 refine ⟨hlen, ?_⟩
 rw [e] at hlen ⊢
 exact show_read ⟨rd_name (by omega) (by omega), hw, trivial⟩ (by simp [Tr.deep, deepL, sK]) (by omega)
theorem lev_num {k n : Nat} (hk : k = 8 ∨ k = 9) (hn : n ≤ 1000) : parseK (.list [sK (nameK k), .leaf (5, itoaK n)]) = some ⟨k, [], [], [], .leaf (0, []), [], n⟩ := by
 rw [parse_name (by omega) (by omega)]
 have e : body id (0, []) k [(.leaf (5, itoaK n) : Tr Key)] = levB id (0, []) k [.leaf (5, itoaK n)] := by rcases hk with rfl | rfl <;> rfl
 rw [e]
 show (if isK id 5 (.leaf ((5, itoaK n) : Key)) = true then (numK (itoaK n)).map fun i => { c0 ((0, []) : Key) k with n := i } else none) = _
 rw [if_pos (isK_leaf _ _), num_itoa n (by omega)]
 rfl
theorem lev_one {k : Nat} (hk : k = 8 ∨ k = 9) : parseK (.list [sK (nameK k)]) = some ⟨k, [], [], [], .leaf (0, []), [], 1⟩ := by
 rw [parse_name (by omega) (by omega)]
 rcases hk with rfl | rfl <;> rfl
theorem lev_bad {k : Nat} (hk : k = 8 ∨ k = 9) {w : Key} (h : w.1 ≠ 5 ∨ numK w.2 = none) : parseK (.list [sK (nameK k), .leaf w]) = none := by
 rw [parse_name (by omega) (by omega)]
 have e : body id (0, []) k [(.leaf w : Tr Key)] = levB id (0, []) k [.leaf w] := by rcases hk with rfl | rfl <;> rfl
 rw [e]
 show (if isK id 5 (.leaf w) = true then (numK w.2).map fun i => { c0 ((0, []) : Key) k with n := i } else none) = _
 by_cases h5 : w.1 = 5
 ·rw [h.resolve_left (fun hh => hh h5)]
  split <;> rfl
 ·rw [if_neg]
  simp [isK, h5]
theorem lev_none {k : Nat} (hk : k = 8 ∨ k = 9) : ∃ t : Tr Wd, treesO (wordsT (40 :: (nameK k ++ [41]))) = [t] ∧ t.map key = .list [sK (nameK k)] := by
 obtain ⟨n1, n2⟩ := lev_names k (by omega) (by omega)
 have e : 40 :: (nameK k ++ [41]) = showK (.list [sK (nameK k)]) := by
  show _ = 40 :: ((wrW 3 (nameK k) ++ []) ++ [41])
  rw [n1]; simp
 rw [e]
 have hlen : (showK (.list [sK (nameK k)])).length ≤ 65536 := by
  rw [← e]
  simp only [List.length_cons, List.length_append, List.length_nil]; omega
 exact show_read ⟨rd_name (by omega) (by omega), trivial⟩ (by simp [Tr.deep, deepL, sK]) hlen
end Go.Lex
