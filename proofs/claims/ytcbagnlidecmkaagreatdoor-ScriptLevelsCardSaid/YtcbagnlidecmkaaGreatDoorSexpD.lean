/-
  What sexp.All, Size and Deep compute. No conditions beyond the lemmas' own hypotheses.
-/
import Derived.Test.YtcbagnlidecmkaaGreatDoorSexpC
import Derived.Test.YtcbagnlidecmkaaGreatDoorAbsFour
set_option linter.unusedSimpArgs false
set_option linter.unnecessarySimpa false
set_option linter.unusedVariables false
set_option linter.constructorNameAsVariable false

/-
 sexp.All: its contract.
-/
namespace Go.Proofs.YtcbagnlidecmkaaGreatDoor
open Go Go.Abs Go.Lex Go.Sexp
variable {base : Prot}
set_option maxRecDepth 20000
attribute [local simp] pureS touchV freezeL fuel shiftV
def OutT (x : AVal) (H : Heap) (l : List (Tr Wd)) : Prop := (x = .tight [] ∧ l = []) ∨ ∃ j ver, x = .own j 0 l.length ver ∧ H[j]? = some (rowE ver false (l.map treeV))
theorem OutT.keep {x : AVal} {H H' : Heap} {l : List (Tr Wd)} (h : OutT x H l) (hH : ∀ j, j < H.length → H'[j]? = H[j]?) : OutT x H' l := by
 rcases h with h | ⟨j, ver, h1, h2⟩
 ·exact .inl h
 ·exact .inr ⟨j, ver, h1, by rw [hH _ (List.getElem?_eq_some_iff.1 h2).1]; exact h2⟩
theorem OutT.app {x : AVal} {H : Heap} {l : List (Tr Wd)} (h : OutT x H l) (hl : l.length < 65536) (t : Tr Wd) : ∃ x' H', appV 5 64 29 x [treeV t] H = some (x', H') ∧ OutT x' H' (l ++ [t]) := by
 obtain ⟨b, k, s, a, vs, hen⟩ := encT_shape t
 rcases h with ⟨rfl, rfl⟩ | ⟨j, ver, rfl, h2⟩
 ·exact ⟨.own H.length 0 1 0, H ++ [rowE 0 false [treeV t]], by simp [appV, treeV, hen, rowE, maxLen], .inr ⟨H.length, 0, rfl, by simp⟩⟩
 ·have hj := (List.getElem?_eq_some_iff.1 h2).1
  have m1 : (l.length + 1) * 64 ≤ 140737488355328 := by omega
  have m2 : l.length + 1 ≤ maxLen := by unfold maxLen; omega
  refine ⟨.own j 0 (l.length + 1) (ver + 1), H.set j (rowE (ver + 1) false (l.map treeV ++ [treeV t])), ?_, .inr ⟨j, ver + 1, by simp, by simp [hj]⟩⟩
  unfold rowE at h2
  simp [appV, treeV, hen, rowE, h2, m1, m2]
theorem OutT.res {x : AVal} {H : Heap} {l : List (Tr Wd)} (h : OutT x H l) (n : Nat) : resolveV H (n + 1) x = some (.lst (encL l)) := by
 rcases h with ⟨rfl, rfl⟩ | ⟨j, ver, rfl, h2⟩
 ·rfl
 ·have etk : (l.map treeV).take l.length = l.map treeV := List.take_of_length_le (by simp)
  have em := mapO_row H n l
  unfold rowE at h2
  simp only [resolveV, h2, List.length_map, Nat.zero_add, Nat.le_refl, and_self, if_true, List.drop_zero, etk, em]
def Tna : Tab := Tab.none
theorem Tna_mu (f : FuncId) (a : List AVal) (H : Heap) : Tna.mu f a H = none := (rfl)
attribute [local simp] Tna_mu
theorem next_in {ws : List Wd} {i : Nat} (hi : i < ws.length) : ∃ r, run Wd.kind 200 (ws.drop i) [] false = nextR Wd.kind 200 (2 * ws.length + 1) (ws.drop i) ∧ (nextR Wd.kind 200 (2 * ws.length + 1) (ws.drop i)).2.1 = r ∧ ws.drop (ws.length - r.length) = r ∧ r.length ≤ ws.length - i ∧
  nextO ws i = ((nextR Wd.kind 200 (2 * ws.length + 1) (ws.drop i)).1, ((ws.length - r.length : Nat) : Int), (nextR Wd.kind 200 (2 * ws.length + 1) (ws.drop i)).2.2) ∧ ((nextR Wd.kind 200 (2 * ws.length + 1) (ws.drop i)).1.isSome = true → r.length < ws.length - i ∧ (nextR Wd.kind 200 (2 * ws.length + 1) (ws.drop i)).2.2 = 0) := by
 have h1 := next_eq Wd.kind (m := 200) (n := 2 * ws.length + 1) (ws := ws.drop i) (by rw [List.length_drop]; omega)
 have hs := nextR_suffix Wd.kind 200 (2 * ws.length + 1) (ws.drop i)
 have hs2 := hs.trans (List.drop_suffix i ws)
 have hl := hs.length_le
 rw [List.length_drop] at hl
 refine ⟨_, h1, rfl, (List.suffix_iff_eq_drop.1 hs2).symm, hl, ?_, fun hh => ?_⟩
 ·unfold nextO
  rw [if_neg (by omega)]
  simp only [Int.toNat_natCast, h1]
  congr 2
  omega
 ·obtain ⟨t, ht⟩ := Option.isSome_iff_exists.1 hh
  have he : nextR Wd.kind 200 (2 * ws.length + 1) (ws.drop i) = (some t, (nextR Wd.kind 200 (2 * ws.length + 1) (ws.drop i)).2.1, (nextR Wd.kind 200 (2 * ws.length + 1) (ws.drop i)).2.2) := by rw [← ht]
  obtain ⟨a1, a2, a3, a4, a5⟩ := next_some Wd.kind he
  have := (treeR_short Wd.kind (2 * ws.length + 1)).1 (ws.drop i) a1
  rw [List.length_drop, a3] at this
  exact ⟨this, a5⟩
theorem next_none {k : Wd → Int} {m n : Nat} {ws r : List Wd} {e : Nat} (h : nextR k m n ws = (none, r, e)) : e ≠ 0 := by
 unfold nextR at h
 repeat' split at h
 all_goals first | (cases h; done) | (cases h; decide)
theorem set_end (H : Heap) (a b : Ent) : (H ++ [a]).set H.length b = H ++ [b] := by
 rw [List.set_append_right _ _ (Nat.le_refl _), Nat.sub_self]; rfl
theorem get_end (H : Heap) (a : Ent) : (H ++ [a])[H.length]? = some a := by simp
end Go.Proofs.YtcbagnlidecmkaaGreatDoor

/-
 sexp.Size and Deep: their contracts.
-/
namespace Go.Proofs.YtcbagnlidecmkaaGreatDoor
open Go Go.Abs Go.Lex Go.Sexp
variable {base : Prot}
set_option maxRecDepth 20000
attribute [local simp] pureS touchV freezeL fuel shiftV
theorem encL_get {l : List (Tr Wd)} {i : Nat} {t : Tr Wd} (h : l[i]? = some t) : (encL l)[i]? = some (encT t) := by
 rw [encL_map, List.getElem?_map, h]; rfl
theorem encL_len (l : List (Tr Wd)) : (encL l).length = l.length := by rw [encL_map, List.length_map]
theorem take_next {l : List (Tr Wd)} {i : Nat} {t : Tr Wd} (h : l[i]? = some t) : l.take (i + 1) = l.take i ++ [t] := by
 rw [List.take_add_one, h]; rfl
theorem size_mem {l : List (Tr Wd)} {t : Tr Wd} (h : t ∈ l) : t.size ≤ sizeL l := by
 induction l with
 | nil => cases h
 | cons a l ih =>
  simp only [sizeL]
  rcases List.mem_cons.1 h with rfl | h
  ·omega
  ·have := ih h; omega
theorem len_size : ∀ l : List (Tr Wd), l.length ≤ sizeL l
 | [] => Nat.le_refl _
 | t :: l => by
  have := len_size l
  have h1 : 1 ≤ t.size := by cases t <;> simp [Tr.size]
  simp only [List.length_cons, sizeL]; omega
end Go.Proofs.YtcbagnlidecmkaaGreatDoor
