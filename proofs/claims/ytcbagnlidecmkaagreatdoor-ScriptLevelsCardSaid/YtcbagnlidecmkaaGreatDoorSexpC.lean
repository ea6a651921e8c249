/-
  What sexp.Next computes, for at most 65536 words.
-/
import Derived.Test.YtcbagnlidecmkaaGreatDoorSexpL
import Derived.Test.YtcbagnlidecmkaaGreatDoorSexpB
import Derived.Test.YtcbagnlidecmkaaGreatDoorLexC
import Derived.Test.YtcbagnlidecmkaaGreatDoorAbsThree
set_option linter.unusedSimpArgs false
set_option linter.unnecessarySimpa false
set_option linter.unusedVariables false
set_option linter.constructorNameAsVariable false

/-
 sexp: the open lists that Next keeps.
-/
namespace Go.Proofs.YtcbagnlidecmkaaGreatDoor
open Go Go.Abs Go.Lex Go.Sexp
variable {base : Prot}
set_option maxRecDepth 20000
attribute [local simp] pureS touchV freezeL fuel shiftV
def lvE (kv : AVal) : AVal := .agg [.p (.bool true), .p (.int .i64 0), .p (.str []), .p (.int .i64 0), kv]
def rowE (ver : Nat) (fz : Bool) (els : List AVal) : Ent := ⟨5, ver, fz, els, 29⟩
def treeV (t : Tr Wd) : AVal := .p (encT t)
inductive Lv (H : Heap) (els : List AVal) : List (List (Tr Wd)) → List Nat → Prop
 | nil : Lv H els [] []
 | tight {r us} (h : els[r.length]? = some (lvE (.tight []))) (t : Lv H els r us) : Lv H els ([] :: r) us
 | own {kids r us u ver} (h : els[r.length]? = some (lvE (.own u 0 kids.length ver))) (hu : H[u]? = some (rowE ver false (kids.map treeV))) (t : Lv H els r us) : Lv H els (kids :: r) (u :: us)
theorem Lv.keep {H H' : Heap} {els els' : List AVal} {st : List (List (Tr Wd))} {us : List Nat} (h : Lv H els st us) (hH : ∀ u ∈ us, H'[u]? = H[u]?) (he : ∀ j, j < st.length → els'[j]? = els[j]?) : Lv H' els' st us := by
 induction h with
 | nil => exact .nil
 | @tight r us h t ih => exact .tight (by rw [he _ (by simp)]; exact h) (ih hH fun j hj => he j (by simp; omega))
 | @own kids r us u ver h hu t ih => exact .own (by rw [he _ (by simp)]; exact h) (by rw [hH u (by simp)]; exact hu) (ih (fun u hu => hH u (by simp [hu])) fun j hj => he j (by simp; omega))
theorem Lv.lt {H : Heap} {els : List AVal} {st : List (List (Tr Wd))} {us : List Nat} (h : Lv H els st us) : ∀ u ∈ us, u < H.length := by
 induction h with
 | nil => intro u hu; cases hu
 | tight _ _ ih => exact ih
 | own _ hu _ ih =>
  intro v hv
  rcases List.mem_cons.1 hv with rfl | hv
  ·exact (List.getElem?_eq_some_iff.1 hu).1
  ·exact ih v hv
def OpenOk (x : AVal) (H : Heap) (st : List (List (Tr Wd))) : Prop :=
 (x = .tight [] ∧ st = []) ∨ ∃ ko ver els us, x = .own ko 0 st.length ver ∧ 0 < ko ∧ H[ko]? = some (rowE ver false els) ∧ st.length ≤ els.length ∧ els.length ≤ 65536 ∧ Lv H els st us ∧ us.Nodup ∧ ko ∉ us ∧ 0 ∉ us
theorem OpenOk.keep {x : AVal} {H H' : Heap} {st : List (List (Tr Wd))} (h : OpenOk x H st) (hH : ∀ j, 0 < j → j < H.length → H'[j]? = H[j]?) : OpenOk x H' st := by
 rcases h with h | ⟨ko, ver, els, us, h1, h2, h3, h4, h4b, h5, h6, h7, h8⟩
 ·exact .inl h
 ·have hk := (List.getElem?_eq_some_iff.1 h3).1
  refine .inr ⟨ko, ver, els, us, h1, h2, by rw [hH _ h2 hk]; exact h3, h4, h4b, h5.keep (fun u hu => hH u (Nat.pos_of_ne_zero fun e => h8 (e ▸ hu)) (h5.lt u hu)) (fun _ _ => rfl), h6, h7, h8⟩
theorem OpenOk.len {x : AVal} {H : Heap} {st : List (List (Tr Wd))} (h : OpenOk x H st) : lenOf? H x = some st.length := by
 rcases h with ⟨rfl, rfl⟩ | ⟨ko, ver, els, us, rfl, h2, h3, _⟩
 ·rfl
 ·simp [lenOf?, h3, rowE]
theorem OpenOk.push {x : AVal} {H : Heap} {st : List (List (Tr Wd))} (h : OpenOk x H st) (h0 : 0 < H.length) (hs : st.length < 65536) :
  ∃ x' H', appV 5 64 29 x [lvE (.tight [])] H = some (x', H') ∧ OpenOk x' H' ([] :: st) ∧ H'[0]? = H[0]? ∧ 0 < H'.length := by
 rcases h with ⟨rfl, rfl⟩ | ⟨ko, ver, els, us, rfl, h2, h3, h4, h4b, h5, h6, h7, h8⟩
 ·refine ⟨.own H.length 0 1 0, H ++ [rowE 0 false [lvE (.tight [])]], by simp [appV, lvE, rowE, maxLen], .inr ⟨_, 0, [lvE (.tight [])], [], rfl, h0, by simp, by simp, by simp, .tight (by simp) .nil, by simp, by simp, by simp⟩, by rw [List.getElem?_append_left h0], by simp⟩
 ·have hk := (List.getElem?_eq_some_iff.1 h3).1
  by_cases hl : st.length = els.length
  ·refine ⟨.own ko 0 (st.length + 1) (ver + 1), H.set ko (rowE (ver + 1) false (els ++ [lvE (.tight [])])), ?_, .inr ⟨ko, ver + 1, els ++ [lvE (.tight [])], us, by simp, h2, by simp [hk], by simp; omega, by simp; omega, .tight (by rw [List.getElem?_append_right (by omega)]; simp [hl]) (h5.keep (fun u hu => ?_) (fun j hj => ?_)), h6, h7, h8⟩, ?_, by simpa using h0⟩
   ·have e1 : (((els.length : Nat) + 1) * 64 ≤ 140737488355328) := by omega
    have e2 : els.length + 1 ≤ maxLen := by unfold maxLen; omega
    simp [appV, lvE, rowE, h3, hl, e1, e2]
   ·rw [List.getElem?_set_ne (fun (e : ko = u) => h7 (e ▸ hu))]
   ·rw [List.getElem?_append_left (by omega)]
   ·rw [List.getElem?_set_ne (by omega)]
  ·refine ⟨.own ko 0 (st.length + 1) ver, H.set ko (rowE ver false (els.take st.length ++ [lvE (.tight [])] ++ els.drop (st.length + 1))), ?_, .inr ⟨ko, ver, els.take st.length ++ [lvE (.tight [])] ++ els.drop (st.length + 1), us, by simp, h2, by simp [hk], by simp; omega, by simp; omega, .tight ?_ (h5.keep (fun u hu => ?_) (fun j hj => ?_)), h6, h7, h8⟩, ?_, by simpa using h0⟩
   ·have e1 : st.length + 1 ≤ els.length := by omega
    simp [appV, lvE, rowE, h3, hl, e1]
   ·have e1 : min st.length els.length = st.length := by omega
    rw [List.append_assoc, List.getElem?_append_right (by simp; omega)]
    simp [e1]
   ·rw [List.getElem?_set_ne (fun (e : ko = u) => h7 (e ▸ hu))]
   ·rw [List.append_assoc, List.getElem?_append_left (by simp; omega), List.getElem?_take, if_pos hj]
   ·rw [List.getElem?_set_ne (by omega)]
end Go.Proofs.YtcbagnlidecmkaaGreatDoor

/-
 sexp.Next: one word.
-/
namespace Go.Proofs.YtcbagnlidecmkaaGreatDoor
open Go Go.Abs Go.Lex Go.Sexp
variable {base : Prot}
set_option maxRecDepth 20000
attribute [local simp] pureS touchV freezeL fuel shiftV
def noTree : AVal := .agg [.p (.bool false), .p (.int .i64 0), .p (.str []), .p (.int .i64 0), .tight []]
inductive C5 : AVal → Prop
 | a (a b c d e : AVal) : C5 (.agg [a, b, c, d, e])
 | p (a b c d e : PVal) : C5 (.p (.agg [a, b, c, d, e]))
structure St (ws : List Wd) (i m : Nat) (st : List (List (Tr Wd))) (deep : Bool) (fr : AFr) (H : Heap) : Prop where
 f0 : fr 0 = .p (.lst (ws.map Wd.v))
 f1 : fr 1 = .p (.int .i64 (i : Int))
 f4 : fr 4 = .optr 0 0 0 0
 f8 : fr 8 = .p (.bool deep)
 h0 : ∃ x, H[0]? = some (rowE 0 false [x]) ∧ C5 x
 op : OpenOk (fr 7) H st
 s1 : st.length ≤ m
 s2 : ∀ kids ∈ st, kids.length ≤ m
def Whole (x : AVal) (H : Heap) (st : List (List (Tr Wd))) (t : Tr Wd) : Prop :=
 ∃ v, H[0]? = some (rowE 0 false [v]) ∧ resolveV H fuel v = some (encT t) ∧ (freezeL H (touchV H fuel v))[0]? = some (rowE 0 false [v]) ∧ OpenOk x (freezeL H (touchV H fuel v)) st
theorem mapO_row (H : Heap) (n : Nat) : ∀ l : List (Tr Wd), mapO (resolveV H n) (l.map treeV) = some (encL l)
 | [] => rfl
 | t :: l => by
  have e : resolveV H n (treeV t) = some (encT t) := by cases n <;> rfl
  simp only [List.map_cons, mapO, mapO_row H n l, e, encL]
end Go.Proofs.YtcbagnlidecmkaaGreatDoor

/-
 sexp.Next: a tree that is whole goes to its place.
-/
namespace Go.Proofs.YtcbagnlidecmkaaGreatDoor
open Go Go.Abs Go.Lex Go.Sexp
variable {base : Prot}
set_option maxRecDepth 20000
attribute [local simp] pureS touchV freezeL fuel shiftV
theorem encT_shape (t : Tr Wd) : ∃ b k s a l, encT t = .agg [.bool b, .int .i64 k, .str s, .int .i64 a, .lst l] := by
 cases t <;> exact ⟨_, _, _, _, _, rfl⟩
end Go.Proofs.YtcbagnlidecmkaaGreatDoor

/-
 sexp.Next: its contract.
-/
namespace Go.Proofs.YtcbagnlidecmkaaGreatDoor
open Go Go.Abs Go.Lex Go.Sexp
variable {base : Prot}
set_option maxRecDepth 20000
attribute [local simp] pureS touchV freezeL fuel shiftV
theorem St.same {ws : List Wd} {i j m : Nat} {st : List (List (Tr Wd))} {deep : Bool} {fr fr' : AFr} {H : Heap} (h : St ws i m st deep fr H) (hf : ∀ k, k < 19 → k ≠ 1 → fr' k = fr k) (h1 : fr' 1 = .p (.int .i64 (j : Int))) : St ws j m st deep fr' H :=
 ⟨(hf 0 (by decide) (by decide)).trans h.f0, h1, (hf 4 (by decide) (by decide)).trans h.f4, (hf 8 (by decide) (by decide)).trans h.f8, h.h0, by rw [hf 7 (by decide) (by decide)]; exact h.op, h.s1, h.s2⟩
def noP : PVal := .agg [.bool false, .int .i64 0, .str [], .int .i64 0, .lst []]
def outP : Option (Tr Wd) → PVal
 | some t => encT t
 | none => noP
def nextO (ws : List Wd) (at_ : Int) : Option (Tr Wd) × Int × Nat :=
 if at_ < 0 ∨ (ws.length : Int) ≤ at_ then (none, 0, 1) else
  let o := run Wd.kind 200 (ws.drop at_.toNat) [] false
  (o.1, (ws.length : Int) - o.2.1.length, o.2.2)
def sNext : List PVal → Option PVal
 | [.lst vs, .int .i64 at_] => match decW vs with
  | some ws => if ws.length ≤ 65536 then some (.tup [outP (nextO ws at_).1, .int .i64 (nextO ws at_).2.1, .int .i64 (nextO ws at_).2.2]) else none
  | none => none
 | _ => none
end Go.Proofs.YtcbagnlidecmkaaGreatDoor
