/-
  What sexp.Next computes, for at most 65536 words.
-/
import Derived.Test.YtdaiicaeklcceaaDoorSexpL
import Derived.Test.YtdaiicaeklcceaaDoorSexpB
import Derived.Test.YtdaiicaeklcceaaDoorLexC
import Derived.Test.YtdaiicaeklcceaaDoorAbsThree
set_option linter.unusedSimpArgs false
set_option linter.unnecessarySimpa false
set_option linter.unusedVariables false
set_option linter.constructorNameAsVariable false

/-
 sexp: the open lists that Next keeps.
-/
namespace Go.Proofs.YtdaiicaeklcceaaDoor
open Go Go.Abs Go.Lex Go.Sexp
variable {base : Prot}
set_option maxRecDepth 20000
attribute [local simp] pureS touchV freezeL fuel shiftV
theorem wrap_nat {n : Nat} (h : n < 9223372036854775808) : IntKind.i64.wrap (n : Int) = n := IntWalk.i64_in _ (by omega)
def lvE (kv : AVal) : AVal := .agg [.p (.bool true), .p (.int .i64 0), .p (.str []), .p (.int .i64 0), kv]
def rowE (ver : Nat) (fz : Bool) (els : List AVal) : Ent := ⟨5, ver, fz, els, 29⟩
def treeV (t : Tr Wd) : AVal := .p (encT t)
inductive Lv (H : Heap) (els : List AVal) : List (List (Tr Wd)) → List Nat → Prop
 | nil : Lv H els [] []
 | tight {r us} (h : els[r.length]? = some (lvE (.tight []))) (t : Lv H els r us) : Lv H els ([] :: r) us
 | own {kids r us u ver} (h : els[r.length]? = some (lvE (.own u 0 kids.length ver))) (hu : H[u]? = some (rowE ver false (kids.map treeV))) (t : Lv H els r us) : Lv H els (kids :: r) (u :: us)
theorem Lv.keep {H H' : Heap} {els els' : List AVal} {st : List (List (Tr Wd))} {us : List Nat} (h : Lv H els st us) (hH : ∀ u ∈ us, H'[u]? = H[u]?) (he : ∀ j, j < st.length → els'[j]? = els[j]?) : Lv H' els' st us := by
 induction h with
 | nil => exact .nil
 | @tight r us h t ih => exact .tight (by rw [he _ (by simp)]; exact h) (ih hH fun j hj => he j (by simp; omega))
 | @own kids r us u ver h hu t ih => exact .own (by rw [he _ (by simp)]; exact h) (by rw [hH u (by simp)]; exact hu) (ih (fun u hu => hH u (by simp [hu])) fun j hj => he j (by simp; omega))
theorem Lv.lt {H : Heap} {els : List AVal} {st : List (List (Tr Wd))} {us : List Nat} (h : Lv H els st us) : ∀ u ∈ us, u < H.length := by
 induction h with
 | nil => intro u hu; cases hu
 | tight _ _ ih => exact ih
 | own _ hu _ ih =>
  intro v hv
  rcases List.mem_cons.1 hv with rfl | hv
  ·exact (List.getElem?_eq_some_iff.1 hu).1
  ·exact ih v hv
def OpenOk (x : AVal) (H : Heap) (st : List (List (Tr Wd))) : Prop :=
 (x = .tight [] ∧ st = []) ∨ ∃ ko ver els us, x = .own ko 0 st.length ver ∧ 0 < ko ∧ H[ko]? = some (rowE ver false els) ∧ st.length ≤ els.length ∧ els.length ≤ 65536 ∧ Lv H els st us ∧ us.Nodup ∧ ko ∉ us ∧ 0 ∉ us
theorem OpenOk.keep {x : AVal} {H H' : Heap} {st : List (List (Tr Wd))} (h : OpenOk x H st) (hH : ∀ j, 0 < j → j < H.length → H'[j]? = H[j]?) : OpenOk x H' st := by
 rcases h with h | ⟨ko, ver, els, us, h1, h2, h3, h4, h4b, h5, h6, h7, h8⟩
 ·exact .inl h
 ·have hk := (List.getElem?_eq_some_iff.1 h3).1
  refine .inr ⟨ko, ver, els, us, h1, h2, by rw [hH _ h2 hk]; exact h3, h4, h4b, h5.keep (fun u hu => hH u (Nat.pos_of_ne_zero fun e => h8 (e ▸ hu)) (h5.lt u hu)) (fun _ _ => rfl), h6, h7, h8⟩
theorem OpenOk.len {x : AVal} {H : Heap} {st : List (List (Tr Wd))} (h : OpenOk x H st) : lenOf? H x = some st.length := by
 rcases h with ⟨rfl, rfl⟩ | ⟨ko, ver, els, us, rfl, h2, h3, _⟩
 ·rfl
 ·simp [lenOf?, h3, rowE]
theorem OpenOk.push {x : AVal} {H : Heap} {st : List (List (Tr Wd))} (h : OpenOk x H st) (h0 : 0 < H.length) (hs : st.length < 65536) :
  ∃ x' H', appV 5 64 29 x [lvE (.tight [])] H = some (x', H') ∧ OpenOk x' H' ([] :: st) ∧ H'[0]? = H[0]? ∧ 0 < H'.length := by
 rcases h with ⟨rfl, rfl⟩ | ⟨ko, ver, els, us, rfl, h2, h3, h4, h4b, h5, h6, h7, h8⟩
 ·refine ⟨.own H.length 0 1 0, H ++ [rowE 0 false [lvE (.tight [])]], by simp [appV, lvE, rowE, maxLen], .inr ⟨_, 0, [lvE (.tight [])], [], rfl, h0, by simp, by simp, by simp, .tight (by simp) .nil, by simp, by simp, by simp⟩, by rw [List.getElem?_append_left h0], by simp⟩
 ·have hk := (List.getElem?_eq_some_iff.1 h3).1
  by_cases hl : st.length = els.length
  ·refine ⟨.own ko 0 (st.length + 1) (ver + 1), H.set ko (rowE (ver + 1) false (els ++ [lvE (.tight [])])), ?_, .inr ⟨ko, ver + 1, els ++ [lvE (.tight [])], us, by simp, h2, by simp [hk], by simp; omega, by simp; omega, .tight (by rw [List.getElem?_append_right (by omega)]; simp [hl]) (h5.keep (fun u hu => ?_) (fun j hj => ?_)), h6, h7, h8⟩, ?_, by simpa using h0⟩
   ·have e1 : (((els.length : Nat) + 1) * 64 ≤ 140737488355328) := by omega
    have e2 : els.length + 1 ≤ maxLen := by unfold maxLen; omega
    simp [appV, lvE, rowE, h3, hl, e1, e2]
   ·rw [List.getElem?_set_ne (fun (e : ko = u) => h7 (e ▸ hu))]
   ·rw [List.getElem?_append_left (by omega)]
   ·rw [List.getElem?_set_ne (by omega)]
  ·refine ⟨.own ko 0 (st.length + 1) ver, H.set ko (rowE ver false (els.take st.length ++ [lvE (.tight [])] ++ els.drop (st.length + 1))), ?_, .inr ⟨ko, ver, els.take st.length ++ [lvE (.tight [])] ++ els.drop (st.length + 1), us, by simp, h2, by simp [hk], by simp; omega, by simp; omega, .tight ?_ (h5.keep (fun u hu => ?_) (fun j hj => ?_)), h6, h7, h8⟩, ?_, by simpa using h0⟩
   ·have e1 : st.length + 1 ≤ els.length := by omega
    simp [appV, lvE, rowE, h3, hl, e1]
   ·have e1 : min st.length els.length = st.length := by omega
    rw [List.append_assoc, List.getElem?_append_right (by simp; omega)]
    simp [e1]
   ·rw [List.getElem?_set_ne (fun (e : ko = u) => h7 (e ▸ hu))]
   ·rw [List.append_assoc, List.getElem?_append_left (by simp; omega), List.getElem?_take, if_pos hj]
   ·rw [List.getElem?_set_ne (by omega)]
end Go.Proofs.YtdaiicaeklcceaaDoor

/-
 sexp.Next: one word.
-/
namespace Go.Proofs.YtdaiicaeklcceaaDoor
open Go Go.Abs Go.Lex Go.Sexp
variable {base : Prot}
set_option maxRecDepth 20000
attribute [local simp] pureS touchV freezeL fuel shiftV
def leafA (w : Wd) : AVal := .agg [.p (.bool false), .p (.int .i64 w.kind), .p (.str w.text), .p (.int .i64 w.at_), .tight []]
def noTree : AVal := .agg [.p (.bool false), .p (.int .i64 0), .p (.str []), .p (.int .i64 0), .tight []]
inductive C5 : AVal → Prop
 | a (a b c d e : AVal) : C5 (.agg [a, b, c, d, e])
 | p (a b c d e : PVal) : C5 (.p (.agg [a, b, c, d, e]))
theorem C5.tree (t : Tr Wd) : C5 (treeV t) := by cases t <;> exact .p ..
structure St (ws : List Wd) (i m : Nat) (st : List (List (Tr Wd))) (deep : Bool) (fr : AFr) (H : Heap) : Prop where
 f0 : fr 0 = .p (.lst (ws.map Wd.v))
 f1 : fr 1 = .p (.int .i64 (i : Int))
 f4 : fr 4 = .optr 0 0 0 0
 f8 : fr 8 = .p (.bool deep)
 h0 : ∃ x, H[0]? = some (rowE 0 false [x]) ∧ C5 x
 op : OpenOk (fr 7) H st
 s1 : st.length ≤ m
 s2 : ∀ kids ∈ st, kids.length ≤ m
def nxBody : LCode := match lf9_B0 with
 | .block _ (.loop (.seq _ (.seq (.block _ b) _))) => b
 | _ => .bad
def nxPut : LCode := match nxBody with
 | .seq a _ => a
 | _ => .bad
def nxSwitch : LCode := match nxBody with
 | .seq _ (.seq (.block _ b) _) => b
 | _ => .bad
def nxRest : LCode := match nxBody with
 | .seq _ (.seq _ r) => r
 | _ => .bad
theorem nxBody_eq : nxBody = .seq nxPut (.seq (.block 2 nxSwitch) nxRest) := (rfl)
theorem put_ok {ws : List Wd} {i m : Nat} {st : List (List (Tr Wd))} {deep : Bool} {fr : AFr} {H : Heap} {w : Wd} (h : St ws i m st deep fr H) (hi : ws[i]? = some w) (hw : ws.length ≤ 65536) {Q : LExit → AFr → Heap → Prop}
  (hQ : ∀ fr' H', St ws i m st deep fr' H' → H'[0]? = some (rowE 0 false [leafA w]) → Q .normal fr' H') : vc Tab.none nxPut Q fr H := by
 obtain ⟨f0, f1, f4, f8, ⟨x, h0, hx⟩, op, s1, s2⟩ := h
 have hlt : i < ws.length := (List.getElem?_eq_some_iff.1 hi).1
 have hg := (List.getElem?_eq_some_iff.1 hi).2
 have hkl := (List.getElem?_eq_some_iff.1 h0).1
 unfold rowE at h0
 have key : ∀ fr' : AFr, fr' 0 = fr 0 → fr' 1 = fr 1 → fr' 4 = fr 4 → fr' 7 = fr 7 → fr' 8 = fr 8 → Q .normal fr' (H.set 0 (rowE 0 false [leafA w])) := fun fr' g0 g1 g4 g7 g8 =>
  hQ _ _ ⟨g0.trans f0, g1.trans f1, g4.trans f4, g8.trans f8, ⟨leafA w, by rw [List.getElem?_set_self hkl], .a ..⟩, by rw [g7]; exact op.keep fun j h1 h2 => by rw [List.getElem?_set_ne (by omega)], s1, s2⟩ (by rw [List.getElem?_set_self hkl])
 cases hx
 all_goals
  simp [nxPut, nxBody, lf9_B0, f0, f1, f4, hlt, hg, Wd.v, wordV, h0]
  exact key _ (by simp) (by simp) (by simp) (by simp) (by simp)
def Whole (x : AVal) (H : Heap) (st : List (List (Tr Wd))) (t : Tr Wd) : Prop :=
 ∃ v, H[0]? = some (rowE 0 false [v]) ∧ resolveV H fuel v = some (encT t) ∧ (freezeL H (touchV H fuel v))[0]? = some (rowE 0 false [v]) ∧ OpenOk x (freezeL H (touchV H fuel v)) st
theorem switch_open {ws : List Wd} {i m : Nat} {st : List (List (Tr Wd))} {deep : Bool} {fr : AFr} {H : Heap} {w : Wd} (h : St ws i m st deep fr H) (hi : ws[i]? = some w) (hw : ws.length ≤ 65536) (hm : m ≤ i) (hk : w.kind = 1) {Q : LExit → AFr → Heap → Prop}
  (hQ : ∀ fr' H', St ws i (m + 1) ([] :: st) (deep || decide (200 < st.length + 1)) fr' H' → Q (.exit 1) fr' H') : vc Tab.none nxSwitch Q fr H := by
 obtain ⟨f0, f1, f4, f8, ⟨x, h0, hx⟩, op, s1, s2⟩ := h
 have hlt : i < ws.length := (List.getElem?_eq_some_iff.1 hi).1
 have hg := (List.getElem?_eq_some_iff.1 hi).2
 have hkl := (List.getElem?_eq_some_iff.1 h0).1
 have op' := op.keep (H' := H ++ [rowE 0 false [lvE (.tight [])]]) fun j _ h2 => by rw [List.getElem?_append_left h2]
 obtain ⟨x', H', e1, e2, e3, e4⟩ := op'.push (by simp) (by omega)
 have e5 := e2.len
 rw [List.getElem?_append_left hkl, h0] at e3
 have key : ∀ (fr' : AFr) (d : Bool), d = (deep || decide (200 < st.length + 1)) → fr' 0 = fr 0 → fr' 1 = fr 1 → fr' 4 = fr 4 → fr' 7 = x' → fr' 8 = .p (.bool d) → Q (.exit 1) fr' H' := fun fr' d hd g0 g1 g4 g7 g8 => by
  subst hd
  exact hQ _ _ ⟨g0.trans f0, g1.trans f1, g4.trans f4, g8, ⟨x, e3, hx⟩, by rw [g7]; exact e2, by simp; omega, fun kids hk => by
   rcases List.mem_cons.1 hk with rfl | hk
   ·simp
   ·have := s2 kids hk; omega⟩
 unfold rowE lvE at e1
 cases deep with
 | true =>
  simp [nxSwitch, nxBody, lf9_B0, f0, f1, f4, f8, hlt, hg, Wd.v, wordV, hk, fillS, List.replicate, e1, -appV]
  exact key _ true (by simp) (by simp) (by simp) (by simp) (by simp) (by simp)
 | false =>
  by_cases hd : 200 < st.length + 1
  ·have hd' : (200 : Int) < (st.length : Int) + 1 := by omega
   simp [nxSwitch, nxBody, lf9_B0, f0, f1, f4, f8, hlt, hg, Wd.v, wordV, hk, fillS, List.replicate, e1, e5, hd', -appV, -lenOf?]
   exact key _ true (by simp [hd]) (by simp) (by simp) (by simp) (by simp) (by simp)
  ·have hd' : ¬ (200 : Int) < (st.length : Int) + 1 := by omega
   simp [nxSwitch, nxBody, lf9_B0, f0, f1, f4, f8, hlt, hg, Wd.v, wordV, hk, fillS, List.replicate, e1, e5, hd', -appV, -lenOf?]
   exact key _ false (by simp [hd]) (by simp) (by simp) (by simp) (by simp) (by simp)
theorem switch_shut {ws : List Wd} {i m : Nat} {deep : Bool} {fr : AFr} {H : Heap} {w : Wd} (h : St ws i m [] deep fr H) (hi : ws[i]? = some w) (hw : ws.length ≤ 65536) (hk : w.kind = 2) {Q : LExit → AFr → Heap → Prop}
  (hQ : ∀ fr' H', fr' 4 = .optr 0 0 0 0 → H'[0]? = some (rowE 0 false [noTree]) → fr' 5 = .p (.int .i64 ((i : Int) + 1)) → fr' 6 = .p (.int .i64 2) → Q .ret fr' H') : vc Tab.none nxSwitch Q fr H := by
 obtain ⟨f0, f1, f4, f8, ⟨x, h0, hx⟩, op, s1, s2⟩ := h
 have hlt : i < ws.length := (List.getElem?_eq_some_iff.1 hi).1
 have hg := (List.getElem?_eq_some_iff.1 hi).2
 have hkl := (List.getElem?_eq_some_iff.1 h0).1
 have e5 := op.len
 have key : ∀ fr' : AFr, fr' 4 = fr 4 → fr' 5 = .p (.int .i64 ((i : Int) + 1)) → fr' 6 = .p (.int .i64 2) → Q .ret fr' (H.set 0 (rowE 0 false [noTree])) := fun fr' g4 g5 g6 =>
  hQ _ _ (g4.trans f4) (by rw [List.getElem?_set_self hkl]) g5 g6
 unfold rowE at h0
 cases hx
 all_goals
  simp [nxSwitch, nxBody, lf9_B0, f0, f1, f4, f8, hlt, hg, Wd.v, wordV, hk, e5, h0, wrap_succ (i := i) (by omega), -lenOf?]
  exact key _ (by simp) (by simp) (by simp)
theorem switch_leaf {ws : List Wd} {i m : Nat} {st : List (List (Tr Wd))} {deep : Bool} {fr : AFr} {H : Heap} {w : Wd} (h : St ws i m st deep fr H) (hi : ws[i]? = some w) (hw : ws.length ≤ 65536) (h1 : w.kind ≠ 1) (h2 : w.kind ≠ 2) (hv : H[0]? = some (rowE 0 false [leafA w])) {Q : LExit → AFr → Heap → Prop}
  (hQ : ∀ fr', St ws i m st deep fr' H → Whole (fr' 7) H st (.leaf w) → Q .normal fr' H) : vc Tab.none nxSwitch Q fr H := by
 have hS := h
 obtain ⟨f0, f1, f4, f8, _, op, s1, s2⟩ := h
 have hlt : i < ws.length := (List.getElem?_eq_some_iff.1 hi).1
 have hg := (List.getElem?_eq_some_iff.1 hi).2
 have key : ∀ fr' : AFr, fr' 0 = fr 0 → fr' 1 = fr 1 → fr' 4 = fr 4 → fr' 7 = fr 7 → fr' 8 = fr 8 → Q .normal fr' H := fun fr' g0 g1 g4 g7 g8 =>
  hQ _ ⟨g0.trans f0, g1.trans f1, g4.trans f4, g8.trans f8, hS.h0, by rw [g7]; exact op, s1, s2⟩ ⟨_, hv, by simp [leafA, encT], by simpa [leafA] using hv, by rw [g7]; simpa [leafA] using op⟩
 have b1 : (w.kind == 1) = false := by simpa using h1
 have b2 : (w.kind == 2) = false := by simpa using h2
 simp [nxSwitch, nxBody, lf9_B0, f0, f1, hlt, hg, Wd.v, wordV, b1, b2]
 exact key _ (by simp) (by simp) (by simp) (by simp) (by simp)
theorem mapO_row (H : Heap) (n : Nat) : ∀ l : List (Tr Wd), mapO (resolveV H n) (l.map treeV) = some (encL l)
 | [] => rfl
 | t :: l => by
  have e : resolveV H n (treeV t) = some (encT t) := by cases n <;> rfl
  simp only [List.map_cons, mapO, mapO_row H n l, e, encL]
theorem switch_pop {ws : List Wd} {i m : Nat} {kids : List (Tr Wd)} {r : List (List (Tr Wd))} {deep : Bool} {fr : AFr} {H : Heap} {w : Wd} (h : St ws i m (kids :: r) deep fr H) (hi : ws[i]? = some w) (hw : ws.length ≤ 65536) (hk : w.kind = 2) {Q : LExit → AFr → Heap → Prop}
  (hQ : ∀ fr' H', St ws i m r deep fr' H' → Whole (fr' 7) H' r (.list kids) → Q .normal fr' H') : vc Tab.none nxSwitch Q fr H := by
 obtain ⟨f0, f1, f4, f8, ⟨x, h0, hx⟩, op, s1, s2⟩ := h
 have hlt : i < ws.length := (List.getElem?_eq_some_iff.1 hi).1
 have hg := (List.getElem?_eq_some_iff.1 hi).2
 have hkl := (List.getElem?_eq_some_iff.1 h0).1
 rcases op with ⟨_, hz⟩ | ⟨ko, ver, els, us, f7, p2, p3, p4, p4b, p5, p6, p7, p8⟩
 ·cases hz
 simp only [List.length_cons] at f7 p4
 have hlr : r.length < els.length := by omega
 obtain ⟨kv, hkv, hkc, hgo⟩ : ∃ kv, els[r.length]? = some (lvE kv) ∧ (kv = .tight [] ∨ ∃ u n v, kv = .own u 0 n v) ∧ (∀ fr' : AFr, fr' 0 = fr 0 → fr' 1 = fr 1 → fr' 4 = fr 4 → fr' 7 = .own ko 0 r.length ver → fr' 8 = fr 8 → Q .normal fr' (H.set 0 (rowE 0 false [lvE kv]))) := by
  have frame : ∀ (fr' : AFr) (kv : AVal) (us' : List Nat), Lv H els r us' → us'.Nodup → ko ∉ us' → 0 ∉ us' → fr' 0 = fr 0 → fr' 1 = fr 1 → fr' 4 = fr 4 → fr' 7 = .own ko 0 r.length ver → fr' 8 = fr 8 → St ws i m r deep fr' (H.set 0 (rowE 0 false [lvE kv])) := fun fr' kv us' q5 q6 q7 q8 g0 g1 g4 g7 g8 =>
   ⟨g0.trans f0, g1.trans f1, g4.trans f4, g8.trans f8, ⟨lvE kv, by rw [List.getElem?_set_self hkl], .a ..⟩, .inr ⟨ko, ver, els, us', g7, p2, by rw [List.getElem?_set_ne (by omega)]; exact p3, by omega, p4b, q5.keep (fun u hu => by rw [List.getElem?_set_ne (fun (e : 0 = u) => q8 (e ▸ hu))]) (fun _ _ => rfl), q6, q7, q8⟩, by simp only [List.length_cons] at s1; omega, fun k hk => s2 k (List.mem_cons_of_mem _ hk)⟩
  cases p5 with
  | tight e t =>
   refine ⟨_, e, .inl rfl, fun fr' g0 g1 g4 g7 g8 => ?_⟩
   have hS := frame fr' (.tight []) us t p6 p7 p8 g0 g1 g4 g7 g8
   have h0' : (H.set 0 (rowE 0 false [lvE (.tight [])]))[0]? = some (rowE 0 false [lvE (.tight [])]) := List.getElem?_set_self hkl
   exact hQ _ _ hS ⟨_, h0', by simp [lvE, encT, encL], by simpa [lvE] using h0', by simpa [lvE] using hS.op⟩
  | @own _ _ us u uver e hu t =>
   refine ⟨_, e, .inr ⟨_, _, _, rfl⟩, fun fr' g0 g1 g4 g7 g8 => ?_⟩
   simp only [List.nodup_cons, List.mem_cons, not_or] at p6 p7 p8
   have hS := frame fr' (.own u 0 kids.length uver) us t p6.2 p7.2 p8.2 g0 g1 g4 g7 g8
   have hul := (List.getElem?_eq_some_iff.1 hu).1
   have h0' : (H.set 0 (rowE 0 false [lvE (.own u 0 kids.length uver)]))[0]? = some (rowE 0 false [lvE (.own u 0 kids.length uver)]) := List.getElem?_set_self hkl
   have hu' : (H.set 0 (rowE 0 false [lvE (.own u 0 kids.length uver)]))[u]? = some (rowE uver false (kids.map treeV)) := by rw [List.getElem?_set_ne p8.1]; exact hu
   have hL : Lv (H.set 0 (rowE 0 false [lvE (.own u 0 kids.length uver)])) els r us := t.keep (fun v hv => by rw [List.getElem?_set_ne (fun (e : 0 = v) => p8.2 (e ▸ hv))]) (fun _ _ => rfl)
   have hko' : (H.set 0 (rowE 0 false [lvE (.own u 0 kids.length uver)]))[ko]? = some (rowE ver false els) := by rw [List.getElem?_set_ne (by omega)]; exact p3
   generalize H.set 0 (rowE 0 false [lvE (.own u 0 kids.length uver)]) = G at hS h0' hu' hL hko' ⊢
   have etk : (kids.map treeV).take kids.length = kids.map treeV := List.take_of_length_le (by simp)
   have ht : touchV G fuel (lvE (.own u 0 kids.length uver)) = [u] := by
    simp [lvE, hu', rowE, etk]
    intro k _
    rfl
   have hr : resolveV G fuel (lvE (.own u 0 kids.length uver)) = some (encT (.list kids)) := by
    have em := mapO_row G 6 kids
    simp only [lvE, fuel, resolveV, mapO, hu', rowE, List.length_map, Nat.zero_add, Nat.le_refl, and_self, if_true, List.drop_zero, etk, em, encT]
   have hf : freezeL G (touchV G fuel (lvE (.own u 0 kids.length uver))) = G.set u ⟨5, uver, true, kids.map treeV, 29⟩ := by
    rw [ht]
    show freeze1 G u = _
    unfold freeze1
    rw [hu']
    rfl
   refine hQ _ _ hS ⟨_, h0', hr, ?_, ?_⟩
   ·rw [hf, List.getElem?_set_ne (fun (e : u = 0) => p8.1 e.symm)]
    exact h0'
   ·rw [hf]
    exact .inr ⟨ko, ver, els, us, g7, p2, by rw [List.getElem?_set_ne (fun (e : u = ko) => p7.1 e.symm)]; exact hko', by omega, p4b, hL.keep (fun v hv => by rw [List.getElem?_set_ne (fun (e : u = v) => p6.1 (e ▸ hv))]) (fun _ _ => rfl), p6.2, p7.2, p8.2⟩
 have hz : ((r.length : Int) + 1 == 0) = false := by simp; omega
 have hsz : r.length ≤ 65536 := by omega
 have hle : (r.length : Int) ≤ r.length + 1 := by omega
 have hlt1 : (r.length : Int) < r.length + 1 := by omega
 have hko : ko < H.length := (List.getElem?_eq_some_iff.1 p3).1
 have hk0 : ¬ ko = 0 := by omega
 have hkv' := getE hkv
 have p3' := getE p3
 unfold rowE at h0 p3 p3'
 unfold lvE at hkv hkv'
 rcases hkc with rfl | ⟨u, nn, vv, rfl⟩
 all_goals
  cases hx
  all_goals
   simp [nxSwitch, nxBody, lf9_B0, f0, f1, f7, hlt, hg, Wd.v, wordV, hk, p3, hz, vc_regionW]
   refine ⟨[0], ?_⟩
   simp [f4, f7, h0, p3', hkv', hlr, hle, hlt1, hko, hk0, wrap_nat (n := r.length) (by omega)]
   exact ⟨fun k _ hk => by rw [List.getElem?_set_ne (fun (e : 0 = k) => hk e.symm)], hgo _ (by simp) (by simp) (by simp) (by simp) (by simp)⟩
end Go.Proofs.YtdaiicaeklcceaaDoor

/-
 sexp.Next: a tree that is whole goes to its place.
-/
namespace Go.Proofs.YtdaiicaeklcceaaDoor
open Go Go.Abs Go.Lex Go.Sexp
variable {base : Prot}
set_option maxRecDepth 20000
attribute [local simp] pureS touchV freezeL fuel shiftV
theorem encT_shape (t : Tr Wd) : ∃ b k s a l, encT t = .agg [.bool b, .int .i64 k, .str s, .int .i64 a, .lst l] := by
 cases t <;> exact ⟨_, _, _, _, _, rfl⟩
theorem wrap_m1 : IntKind.i64.wrap (-1) = -1 := by rfl
def outA : Option (Tr Wd) → AVal
 | some t => treeV t
 | none => noTree
theorem rest_done {ws : List Wd} {i m : Nat} {deep : Bool} {t : Tr Wd} {fr : AFr} {H : Heap} (h : St ws i m [] deep fr H) (hi : i < ws.length) (hw : ws.length ≤ 65536) (ht : H[0]? = some (rowE 0 false [treeV t])) {Q : LExit → AFr → Heap → Prop}
  (hQ : ∀ fr' H', fr' 4 = .optr 0 0 0 0 → H'[0]? = some (rowE 0 false [outA (if deep = true then none else some t)]) → fr' 5 = .p (.int .i64 ((i : Int) + 1)) → fr' 6 = .p (.int .i64 (if deep = true then 4 else 0)) → Q .ret fr' H') : vc Tab.none nxRest Q fr H := by
 obtain ⟨f0, f1, f4, f8, _, op, s1, s2⟩ := h
 have hkl := (List.getElem?_eq_some_iff.1 ht).1
 have e5 := op.len
 have key : ∀ (fr' : AFr) (H' : Heap), H' = H.set 0 (rowE 0 false [outA (if deep = true then none else some t)]) → fr' 4 = fr 4 → fr' 5 = .p (.int .i64 ((i : Int) + 1)) → fr' 6 = .p (.int .i64 (if deep = true then 4 else 0)) → Q .ret fr' H' := fun fr' H' hH g4 g5 g6 =>
  hQ _ _ (g4.trans f4) (by rw [hH, List.getElem?_set_self hkl]) g5 g6
 obtain ⟨b, k, s, a, l, he⟩ := encT_shape t
 unfold rowE treeV at ht
 rw [he] at ht
 cases deep with
 | true =>
  simp [nxRest, nxBody, lf9_B0, f0, f1, f4, f8, ht, e5, wrap_m1, wrap_succ (i := i) (by omega), -lenOf?]
  exact key _ _ (by simp [rowE, outA, noTree]) (by simp) (by simp) (by simp)
 | false =>
  simp [nxRest, nxBody, lf9_B0, f0, f1, f4, f8, ht, e5, wrap_m1, wrap_succ (i := i) (by omega), -lenOf?]
  exact key _ _ (by simp [rowE, outA, treeV, he]) (by simp) (by simp) (by simp)
def nxPart : LCode := match nxRest with
 | .seq (.seq _ (.seq _ (.cond _ (.seq (.block _ b) _) _))) _ => b
 | _ => .bad
def nxApp : LCode := match nxPart with
 | .seq a _ => a
 | _ => .bad
def nxTree : LCode := match nxPart with
 | .seq _ b => b
 | _ => .bad
def nxLast : LCode := match nxRest with
 | .seq _ b => b
 | _ => .bad
theorem nxRest_eq : nxRest = .seq (.seq (.region [⟨some 80, none, .mov (.tmp 7)⟩, ⟨some 81, none, .len (.tmp 80)⟩, ⟨some 82, none, .bin .sub (.tmp 81) (.cst (.p (.int .i64 1)))⟩, ⟨some 9, none, .mov (.tmp 82)⟩])
  (.seq (.region [⟨some 83, none, .mov (.tmp 9)⟩, ⟨some 84, none, .bin .geq (.tmp 83) (.cst (.p (.int .i64 0)))⟩]) (.cond (.tmp 84) (.seq (.block 999999 (.seq nxApp nxTree)) (.exit 1)) .skip))) nxLast := (rfl)
theorem tree_ok {fr : AFr} {G : Heap} {ko ver j u uv kn : Nat} {els es : List AVal} {kv : AVal} {t : Tr Wd} (f85 : fr 85 = .own ko 0 (j + 1) ver) (f86 : fr 86 = .p (.int .i64 (j : Int))) (f90 : fr 90 = treeV t) (f91 : fr 91 = .p (.int .i64 (kn : Int))) (f93 : fr 93 = .own u 0 (kn + 1) uv)
  (hk : G[ko]? = some (rowE ver false els)) (he : els[j]? = some (lvE kv)) (hu : G[u]? = some (rowE uv false es)) (hz : es[kn]? = some noTree) (hne : u ≠ ko) {Q : LExit → AFr → Heap → Prop}
  (hQ : ∀ fr' H', (∀ i, i < 80 → fr' i = fr i) → H'[ko]? = some (rowE ver false (els.set j (lvE (.own u 0 (kn + 1) uv)))) → H'[u]? = some (rowE uv false (es.set kn (treeV t))) → (∀ v, v ≠ ko → v ≠ u → H'[v]? = G[v]?) → Q .normal fr' H') : vc Tab.none nxTree Q fr G := by
 obtain ⟨b, k, s, a, l, hen⟩ := encT_shape t
 have hkl := (List.getElem?_eq_some_iff.1 hk).1
 have hul := (List.getElem?_eq_some_iff.1 hu).1
 have hne' : ko ≠ u := fun e => hne e.symm
 have k1 : ∀ fr' : AFr, (∀ i, i < 80 → fr' i = fr i) → Q .normal fr' ((G.set u (rowE uv false (es.set kn (treeV t)))).set ko (rowE ver false (els.set j (lvE (.own u 0 (kn + 1) uv))))) := fun fr' hf =>
  hQ _ _ hf (by rw [List.getElem?_set_self (by simpa using hkl)]) (by rw [List.getElem?_set_ne hne', List.getElem?_set_self hul]) (fun v h1 h2 => by rw [List.getElem?_set_ne (fun e => h1 e.symm), List.getElem?_set_ne (fun e => h2 e.symm)])
 have k2 : ∀ fr' : AFr, (∀ i, i < 80 → fr' i = fr i) → Q .normal fr' ((G.set ko (rowE ver false (els.set j (lvE (.own u 0 (kn + 1) uv))))).set u (rowE uv false (es.set kn (treeV t)))) := fun fr' hf => by
  rw [List.set_comm _ _ hne']
  exact k1 fr' hf
 unfold rowE treeV lvE at k1 k2
 rw [hen] at k1 k2
 unfold treeV at f90
 rw [hen] at f90
 unfold rowE at hk hu
 unfold lvE at he
 unfold noTree at hz
 have hj1 : (j : Int) < j + 1 := by omega
 have hk1 : (kn : Int) < kn + 1 := by omega
 simp [nxTree, nxPart, nxRest, nxBody, lf9_B0, f85, f86, f90, f91, f93, hk, he, hu, hz, hne, hne', hj1, hk1]
 refine ⟨⟨k1 _ ?_, k2 _ ?_⟩, ⟨k1 _ ?_, k2 _ ?_⟩, k1 _ ?_, k2 _ ?_⟩
 all_goals exact fun i hi => by simp [show ¬ i = 94 by omega, show ¬ i = 95 by omega, show ¬ i = 96 by omega]
theorem app_ok {fr : AFr} {H : Heap} {ko ver : Nat} {kids : List (Tr Wd)} {r : List (List (Tr Wd))} {els : List AVal} {us : List Nat} {t : Tr Wd} (f4 : fr 4 = .optr 0 0 0 0) (f7 : fr 7 = .own ko 0 (r.length + 1) ver) (f9 : fr 9 = .p (.int .i64 (r.length : Int)))
  (hk0 : 0 < ko) (hk : H[ko]? = some (rowE ver false els)) (p5 : Lv H els (kids :: r) us) (p6 : us.Nodup) (p7 : ko ∉ us) (p8 : 0 ∉ us) (ht : H[0]? = some (rowE 0 false [treeV t])) (hkn : kids.length ≤ 65536) {Q : LExit → AFr → Heap → Prop}
  (hQ : ∀ fr' G u uv us' kv, (∀ i, i < 80 → fr' i = fr i) → fr' 85 = .own ko 0 (r.length + 1) ver → fr' 86 = .p (.int .i64 (r.length : Int)) → fr' 90 = treeV t → fr' 91 = .p (.int .i64 (kids.length : Int)) → fr' 93 = .own u 0 (kids.length + 1) uv →
   G[0]? = H[0]? → G[ko]? = some (rowE ver false els) → els[r.length]? = some (lvE kv) → G[u]? = some (rowE uv false (kids.map treeV ++ [noTree])) → u ≠ ko → u ≠ 0 → Lv H els r us' → (∀ v ∈ us', v ∈ us ∧ G[v]? = H[v]?) → us'.Nodup → u ∉ us' → Q .normal fr' G) : vc Tab.none nxApp Q fr H := by
 obtain ⟨b, k, s, a, l, hen⟩ := encT_shape t
 have hkl := (List.getElem?_eq_some_iff.1 ht).1
 have hko : ko < H.length := (List.getElem?_eq_some_iff.1 hk).1
 have hk0' : ¬ ko = 0 := by omega
 have hj1 : (r.length : Int) < r.length + 1 := by omega
 have hk' := getE hk
 have ht' := getE ht
 unfold rowE treeV at ht'
 rw [hen] at ht'
 unfold rowE at hk'
 have far : ∀ k, k < H.length → ∀ E : Heap, (H ++ E)[k]? = H[k]? := fun k hk E => List.getElem?_append_left hk
 cases p5 with
 | tight e q =>
  have e' := getE e
  have hlr : r.length < els.length := (List.getElem?_eq_some_iff.1 e).1
  unfold lvE at e'
  simp [nxApp, nxPart, nxRest, nxBody, lf9_B0, vc_regionW]
  refine ⟨[], ?_⟩
  simp [f4, f7, f9, hj1, hk', ht', hkl, hko, hlr, e', fillS, List.replicate, maxLen]
  refine ⟨fun k hk => far k hk _, ?_⟩
  refine hQ _ _ (H.length + 1) 0 us _ (fun i hi => ?_) (by simp) (by simp) (by simp [treeV, hen]) (by simp) (by simp) (far 0 hkl _) ((far ko hko _).trans hk) e ?_ (by omega) (by omega) q (fun v hv => ⟨hv, far v (q.lt v hv) _⟩) p6 (fun hv => by have := q.lt _ hv; omega)
  ·simp [show ¬ i = 85 by omega, show ¬ i = 86 by omega, show ¬ i = 87 by omega, show ¬ i = 88 by omega, show ¬ i = 89 by omega, show ¬ i = 90 by omega, show ¬ i = 91 by omega, show ¬ i = 92 by omega, show ¬ i = 93 by omega]
  ·rw [List.getElem?_append_right (by omega)]
   simp [rowE, noTree]
 | @own _ _ us u uver e hu q =>
  have e' := getE e
  have hlr : r.length < els.length := (List.getElem?_eq_some_iff.1 e).1
  simp only [List.nodup_cons, List.mem_cons, not_or] at p6 p7 p8
  have hul : u < H.length := (List.getElem?_eq_some_iff.1 hu).1
  have hu' := getE hu
  have hu0 : ¬ u = 0 := fun h => p8.1 h.symm
  unfold rowE at hu'
  unfold lvE at e'
  have m1 : (kids.length + 1) * 64 ≤ 140737488355328 := by omega
  have m2 : kids.length + 1 ≤ maxLen := by unfold maxLen; omega
  simp [nxApp, nxPart, nxRest, nxBody, lf9_B0, vc_regionW]
  refine ⟨[], ?_⟩
  have hfu : ∀ E : Heap, (H ++ E)[u]? = some ⟨5, uver, false, kids.map treeV, 29⟩ := fun E => (far u hul E).trans hu
  simp [f4, f7, f9, hj1, hk', ht', hu', hkl, hko, hul, hlr, e', fillS, List.replicate, m1, m2, hfu]
  have hset : ∀ (x : Ent) (v : Nat) (E : Heap), v < H.length → v ≠ u → (H.set u x ++ E)[v]? = H[v]? := fun x v E h1 h2 => by
   rw [List.getElem?_append_left (by simpa using h1), List.getElem?_set_ne (fun e => h2 e.symm)]
  refine ⟨fun k hk => far k hk _, ?_⟩
  refine hQ _ _ u (uver + 1) us _ (fun i hi => ?_) (by simp) (by simp) (by simp [treeV, hen]) (by simp) (by simp) (hset _ 0 _ hkl (fun e => hu0 e.symm)) ((hset _ ko _ hko (fun e => p7.1 e)).trans hk) e ?_ (fun e => p7.1 e.symm) hu0 q (fun v hv => ⟨by simp [hv], hset _ v _ (q.lt v hv) (fun e => p6.1 (e ▸ hv))⟩) p6.2 p6.1
  ·simp [show ¬ i = 85 by omega, show ¬ i = 86 by omega, show ¬ i = 87 by omega, show ¬ i = 88 by omega, show ¬ i = 89 by omega, show ¬ i = 90 by omega, show ¬ i = 91 by omega, show ¬ i = 92 by omega, show ¬ i = 93 by omega]
  ·rw [List.getElem?_append_left (by simpa using hul), List.getElem?_set_self hul]
   simp [rowE, noTree]
theorem rest_up {ws : List Wd} {i m : Nat} {kids : List (Tr Wd)} {r : List (List (Tr Wd))} {deep : Bool} {t : Tr Wd} {fr : AFr} {H : Heap} (h : St ws i m (kids :: r) deep fr H) (hm : m ≤ 65536) (ht : H[0]? = some (rowE 0 false [treeV t])) {Q : LExit → AFr → Heap → Prop}
  (hQ : ∀ fr' H', St ws i (m + 1) ((kids ++ [t]) :: r) deep fr' H' → Q (.exit 1) fr' H') : vc Tab.none nxRest Q fr H := by
 have e5 := h.op.len
 obtain ⟨f0, f1, f4, f8, _, op, s1, s2⟩ := h
 rcases op with ⟨_, hz⟩ | ⟨ko, ver, els, us, f7, p2, p3, p4, p4b, p5, p6, p7, p8⟩
 ·cases hz
 simp only [List.length_cons] at f7 p4 s1 e5
 have hkn : kids.length ≤ m := s2 kids (List.mem_cons_self ..)
 have hpos : (0 : Int) ≤ r.length := by omega
 rw [f7] at e5
 rw [nxRest_eq]
 simp [f7, e5, hpos, wrap_nat (n := r.length) (by omega), -lenOf?]
 have hlr : r.length < els.length := by omega
 refine app_ok (by simpa using f4) (by simpa using f7) (by simp) p2 p3 p5 p6 p7 p8 ht (by omega) fun fr1 G u uv us' kv g g85 g86 g90 g91 g93 z0 zk hkv zu n1 n2 q q2 q3 q4 => ?_
 simp only [seqQ_normal]
 refine tree_ok g85 g86 g90 g91 g93 zk hkv zu (by rw [List.getElem?_append_right (by simp)]; simp) n1 fun fr2 H2 gg y1 y2 y3 => ?_
 simp only [blockQ_normal, seqQ_normal, vc_exit, seqQ_exit]
 have hset : (kids.map treeV ++ [noTree]).set kids.length (treeV t) = (kids ++ [t]).map treeV := by
  rw [List.set_append_right _ _ (by simp)]
  simp
 rw [hset] at y2
 have fe : ∀ i, i < 80 → i ≠ 9 → fr2 i = fr i := fun i hi h9 => by
  rw [gg i hi, g i hi]
  simp [h9, show ¬ i = 80 by omega, show ¬ i = 81 by omega, show ¬ i = 82 by omega, show ¬ i = 83 by omega, show ¬ i = 84 by omega]
 have hH0 : H2[0]? = H[0]? := by rw [y3 0 (by omega) (fun e => n2 e.symm), z0]
 refine hQ _ _ ⟨(fe 0 (by omega) (by omega)).trans f0, (fe 1 (by omega) (by omega)).trans f1, (fe 4 (by omega) (by omega)).trans f4, (fe 8 (by omega) (by omega)).trans f8, ⟨treeV t, by rw [hH0]; exact ht, .tree t⟩,
  .inr ⟨ko, ver, _, u :: us', by rw [fe 7 (by omega) (by omega), f7]; simp, p2, y1, by simp; omega, by simpa using p4b, .own (ver := uv) (by simp [hlr]) y2 (q.keep (fun v hv => ?_) fun j hj => by rw [List.getElem?_set_ne (by omega)]), by simp [q3, q4], ?_, ?_⟩, by simp; omega, fun k hk => ?_⟩
 ·rw [y3 v (fun e => p7 (e ▸ (q2 v hv).1)) (fun e => q4 (e ▸ hv)), (q2 v hv).2]
 ·simp only [List.mem_cons, not_or]
  exact ⟨fun e => n1 e.symm, fun e => p7 (q2 _ e).1⟩
 ·simp only [List.mem_cons, not_or]
  exact ⟨fun e => n2 e.symm, fun e => p8 (q2 _ e).1⟩
 ·rcases List.mem_cons.1 hk with rfl | hk
  ·simp; omega
  ·have := s2 k (List.mem_cons_of_mem _ hk); omega
end Go.Proofs.YtdaiicaeklcceaaDoor

/-
 sexp.Next: its contract.
-/
namespace Go.Proofs.YtdaiicaeklcceaaDoor
open Go Go.Abs Go.Lex Go.Sexp
variable {base : Prot}
set_option maxRecDepth 20000
attribute [local simp] pureS touchV freezeL fuel shiftV
theorem run_open {k : Wd → Int} {m : Nat} {w : Wd} {ws : List Wd} {st : List (List (Tr Wd))} {deep : Bool} (h : k w = 1) : run k m (w :: ws) st deep = run k m ws ([] :: st) (deep || decide (m < st.length + 1)) := by
 rw [run.eq_def]; dsimp only; rw [if_pos h]
theorem run_bad {k : Wd → Int} {m : Nat} {w : Wd} {ws : List Wd} {deep : Bool} (h : k w = 2) : run k m (w :: ws) [] deep = (none, ws, 2) := by
 rw [run.eq_def]; dsimp only; rw [if_neg (by omega), if_pos h]
theorem run_shut {k : Wd → Int} {m : Nat} {w : Wd} {ws : List Wd} {kids : List (Tr Wd)} {r : List (List (Tr Wd))} {deep : Bool} (h : k w = 2) : run k m (w :: ws) (kids :: r) deep = place k m (.list kids) ws deep r := by
 rw [run.eq_def]; dsimp only; rw [if_neg (by omega), if_pos h]; cases r <;> rfl
theorem run_leaf {k : Wd → Int} {m : Nat} {w : Wd} {ws : List Wd} {st : List (List (Tr Wd))} {deep : Bool} (h1 : k w ≠ 1) (h2 : k w ≠ 2) : run k m (w :: ws) st deep = place k m (.leaf w) ws deep st := by
 rw [run.eq_def]; dsimp only; rw [if_neg h1, if_neg h2]; cases st <;> rfl
theorem body_ok {n : Nat} {ws : List Wd} {i : Nat} {st : List (List (Tr Wd))} {deep : Bool} {fr : AFr} {H : Heap} {w : Wd} {rest : List Wd} (h : St ws i i st deep fr H) (hi : ws[i]? = some w) (hw : ws.length ≤ 65536) {Q : LExit → AFr → Heap → Prop}
  (hX : ∀ fr' H' st' deep', St ws i (i + 1) st' deep' fr' H' → run Wd.kind 200 (w :: rest) st deep = run Wd.kind 200 rest st' deep' → Q (.exit 1) fr' H')
  (hR : ∀ fr' H' o (e : Nat), run Wd.kind 200 (w :: rest) st deep = (o, rest, e) → fr' 4 = .optr 0 0 0 0 → H'[0]? = some (rowE 0 false [outA o]) → fr' 5 = .p (.int .i64 ((i : Int) + 1)) → fr' 6 = .p (.int .i64 (e : Int)) → Q .ret fr' H') : VZ base n Tab.none nxBody Q fr H := by
 have hlt : i < ws.length := (List.getElem?_eq_some_iff.1 hi).1
 rw [nxBody_eq]
 refine VZ.seq (fun fr1 H1 => St ws i i st deep fr1 H1 ∧ H1[0]? = some (rowE 0 false [leafA w])) (VZ.base (put_ok h hi hw fun fr' H' a b => ⟨a, b⟩)) fun fr1 H1 hh => ?_
 obtain ⟨hS, hv⟩ := hh
 refine VZ.seq (fun fr2 H2 => ∃ st2 t, St ws i i st2 deep fr2 H2 ∧ Whole (fr2 7) H2 st2 t ∧ run Wd.kind 200 (w :: rest) st deep = place Wd.kind 200 t rest deep st2) (VZ.block (by decide) (VZ.base ?_)) fun fr2 H2 hh => ?_
 ·by_cases h1 : w.kind = 1
  ·refine switch_open hS hi hw (Nat.le_refl _) h1 fun fr' H' hS' => ?_
   rw [blockQ_other (by decide)]
   exact hX _ _ _ _ hS' (run_open h1)
  ·by_cases h2 : w.kind = 2
   ·cases st with
    | nil =>
     refine switch_shut hS hi hw h2 fun fr' H' g4 g g5 g6 => ?_
     exact hR fr' H' none 2 (run_bad h2) g4 g g5 g6
    | cons kids r => exact switch_pop hS hi hw h2 fun fr' H' hS' hW => ⟨r, _, hS', hW, run_shut h2⟩
   ·exact switch_leaf hS hi hw h1 h2 hv fun fr' hS' hW => ⟨st, _, hS', hW, run_leaf h1 h2⟩
 ·obtain ⟨st2, t, hS2, ⟨v, q1, q2, q3, q4⟩, hrun⟩ := hh
  have hl := (List.getElem?_eq_some_iff.1 q3).1
  refine VZ.seen (Seen.frzE 0 0 q2 q3 (by simp [rowE])) (VZ.base ?_)
  have h0 : ((freezeL H2 (touchV H2 fuel v)).set 0 { rowE 0 false [v] with elems := (rowE 0 false [v]).elems.set 0 (.p (encT t)) })[0]? = some (rowE 0 false [treeV t]) := by
   rw [List.getElem?_set_self hl]; rfl
  have hS3 : St ws i i st2 deep fr2 ((freezeL H2 (touchV H2 fuel v)).set 0 { rowE 0 false [v] with elems := (rowE 0 false [v]).elems.set 0 (.p (encT t)) }) :=
   ⟨hS2.f0, hS2.f1, hS2.f4, hS2.f8, ⟨_, h0, .tree t⟩, q4.keep fun j h1 h2 => by rw [List.getElem?_set_ne (by omega)], hS2.s1, hS2.s2⟩
  cases st2 with
  | nil =>
   refine rest_done hS3 hlt hw h0 fun fr' H' g4 g g5 g6 => ?_
   cases deep with
   | true => exact hR fr' H' none 4 (by rw [hrun]; rfl) g4 g g5 g6
   | false => exact hR fr' H' (some t) 0 (by rw [hrun]; rfl) g4 g g5 g6
  | cons kids r =>
   refine rest_up hS3 (by omega) h0 fun fr' H' hS' => ?_
   exact hX _ _ _ _ hS' (by rw [hrun]; rfl)
def nxHead : LCode := .seq (.region [⟨some 19, none, .mov (.tmp 1)⟩, ⟨some 20, none, .mov (.tmp 0)⟩, ⟨some 21, none, .len (.tmp 20)⟩, ⟨some 22, none, .bin .lss (.tmp 19) (.tmp 21)⟩]) (.cond (.tmp 22) .skip (.exit 0))
theorem head_ok {ws : List Wd} {i : Nat} {fr : AFr} {H : Heap} (f0 : fr 0 = .p (.lst (ws.map Wd.v))) (f1 : fr 1 = .p (.int .i64 (i : Int))) {Q : LExit → AFr → Heap → Prop} (h1 : ∀ fr', (∀ k, k < 19 → fr' k = fr k) → i < ws.length → Q .normal fr' H) (h2 : ∀ fr', (∀ k, k < 19 → fr' k = fr k) → ¬ i < ws.length → Q (.exit 0) fr' H) : vc Tab.none nxHead Q fr H := by
 have fe : ∀ a b c d : AVal, ∀ k, k < 19 → upd (upd (upd (upd fr 19 a) 20 b) 21 c) 22 d k = fr k := fun a b c d k hk => by
  simp [show ¬ k = 19 by omega, show ¬ k = 20 by omega, show ¬ k = 21 by omega, show ¬ k = 22 by omega]
 by_cases hlt : i < ws.length
 ·simp [nxHead, f0, f1, hlt]
  exact h1 _ (fe _ _ _ _) hlt
 ·simp [nxHead, f0, f1, hlt]
  exact h2 _ (fe _ _ _ _) hlt
def nxInc : LCode := .region [⟨some 23, none, .mov (.tmp 1)⟩, ⟨some 24, none, .bin .add (.tmp 23) (.cst (.p (.int .i64 1)))⟩, ⟨some 1, none, .mov (.tmp 24)⟩]
theorem inc_ok {i : Nat} {fr : AFr} {H : Heap} (hi : i < 65536) (f1 : fr 1 = .p (.int .i64 (i : Int))) {Q : LExit → AFr → Heap → Prop} (h1 : ∀ fr', (∀ k, k < 19 → k ≠ 1 → fr' k = fr k) → fr' 1 = .p (.int .i64 ((i + 1 : Nat) : Int)) → Q .normal fr' H) : vc Tab.none nxInc Q fr H := by
 simp [nxInc, f1, wrap_succ (i := i) (by omega)]
 exact h1 _ (fun k hk hk1 => by simp [hk1, show ¬ k = 23 by omega, show ¬ k = 24 by omega]) (by simp)
theorem St.same {ws : List Wd} {i j m : Nat} {st : List (List (Tr Wd))} {deep : Bool} {fr fr' : AFr} {H : Heap} (h : St ws i m st deep fr H) (hf : ∀ k, k < 19 → k ≠ 1 → fr' k = fr k) (h1 : fr' 1 = .p (.int .i64 (j : Int))) : St ws j m st deep fr' H :=
 ⟨(hf 0 (by decide) (by decide)).trans h.f0, h1, (hf 4 (by decide) (by decide)).trans h.f4, (hf 8 (by decide) (by decide)).trans h.f8, h.h0, by rw [hf 7 (by decide) (by decide)]; exact h.op, h.s1, h.s2⟩
theorem lf_B0_eq : lf9_B0 = .block 0 (.loop (.seq nxHead (.seq (.block 1 nxBody) nxInc))) := (rfl)
theorem next_loop {n : Nat} {ws : List Wd} {i0 : Nat} {fr : AFr} {H : Heap} (h : St ws i0 i0 [] false fr H) (hi0 : i0 ≤ ws.length) (hw : ws.length ≤ 65536) {Q : LExit → AFr → Heap → Prop}
  (hE : ∀ fr' H' deep, run Wd.kind 200 (ws.drop i0) [] false = (none, [], if deep = true then 4 else 2) → fr' 1 = .p (.int .i64 (ws.length : Int)) → fr' 4 = .optr 0 0 0 0 → fr' 8 = .p (.bool deep) → (∃ x, H'[0]? = some (rowE 0 false [x]) ∧ C5 x) → Q .normal fr' H')
  (hR : ∀ fr' H' (i : Nat) o rest (e : Nat), run Wd.kind 200 (ws.drop i0) [] false = (o, rest, e) → i + 1 + rest.length = ws.length → fr' 4 = .optr 0 0 0 0 → H'[0]? = some (rowE 0 false [outA o]) → fr' 5 = .p (.int .i64 ((i : Int) + 1)) → fr' 6 = .p (.int .i64 (e : Int)) → Q .ret fr' H') : VZ base n Tab.none lf9_B0 Q fr H := by
 rw [lf_B0_eq]
 refine VZ.block (by decide) (VZ.loop (fun fr H => ∃ i st deep, St ws i i st deep fr H ∧ i ≤ ws.length ∧ run Wd.kind 200 (ws.drop i) st deep = run Wd.kind 200 (ws.drop i0) [] false) (fun fr _ => ws.length - ivar (fr 1)) ⟨i0, [], false, h, hi0, rfl⟩ ?_)
 rintro fr H ⟨i, st, deep, hS, hi, hrun⟩
 refine VZ.seq (fun fr1 H1 => St ws i i st deep fr1 H1 ∧ i < ws.length ∧ fr1 1 = fr 1) (VZ.base ?_) fun fr1 H1 hh => ?_
 ·refine head_ok hS.f0 hS.f1 (fun fr' hf hlt => ⟨hS.same (fun k hk _ => hf k hk) ((hf 1 (by decide)).trans hS.f1), hlt, hf 1 (by decide)⟩) (fun fr' hf hlt => ?_)
  have hil : i = ws.length := by omega
  subst hil
  have hS' := hS.same (fun k hk _ => hf k hk) ((hf 1 (by decide)).trans hS.f1)
  rw [List.drop_length, run] at hrun
  show blockQ 0 Q (.exit 0) fr' H
  rw [blockQ_same]
  exact hE fr' H deep hrun.symm hS'.f1 hS'.f4 hS'.f8 hS'.h0
 ·obtain ⟨hS1, hlt, e1⟩ := hh
  obtain ⟨w, hwi⟩ : ∃ w, ws[i]? = some w := ⟨_, List.getElem?_eq_getElem hlt⟩
  have hdr : ws.drop i = w :: ws.drop (i + 1) := by
   rw [List.drop_eq_getElem_cons hlt]
   rw [List.getElem?_eq_getElem hlt] at hwi
   cases hwi; rfl
  rw [hdr] at hrun
  refine VZ.seq (fun fr2 H2 => ∃ st' deep', St ws i (i + 1) st' deep' fr2 H2 ∧ run Wd.kind 200 (ws.drop (i + 1)) st' deep' = run Wd.kind 200 (ws.drop i0) [] false) (VZ.block (by decide) (body_ok hS1 hwi hw (rest := ws.drop (i + 1)) (fun fr' H' st' deep' hS' hr => ?_) (fun fr' H' o e hr g4 g g5 g6 => ?_))) fun fr2 H2 hh => VZ.base ?_
  ·rw [blockQ_same]
   exact ⟨st', deep', hS', by rw [← hr, hrun]⟩
  ·exact hR fr' H' i o _ e (by rw [← hrun, hr]) (by simp; omega) g4 g g5 g6
  ·obtain ⟨st', deep', hS2, hr⟩ := hh
   refine inc_ok (i := i) (by omega) hS2.f1 fun fr' hf h1 => ⟨⟨i + 1, st', deep', hS2.same hf h1, hlt, hr⟩, ?_⟩
   rw [h1, hS.f1]
   simp only [ivar]
   omega
def noP : PVal := .agg [.bool false, .int .i64 0, .str [], .int .i64 0, .lst []]
def outP : Option (Tr Wd) → PVal
 | some t => encT t
 | none => noP
def nextO (ws : List Wd) (at_ : Int) : Option (Tr Wd) × Int × Nat :=
 if at_ < 0 ∨ (ws.length : Int) ≤ at_ then (none, 0, 1) else
  let o := run Wd.kind 200 (ws.drop at_.toNat) [] false
  (o.1, (ws.length : Int) - o.2.1.length, o.2.2)
def sNext : List PVal → Option PVal
 | [.lst vs, .int .i64 at_] => match decW vs with
  | some ws => if ws.length ≤ 65536 then some (.tup [outP (nextO ws at_).1, .int .i64 (nextO ws at_).2.1, .int .i64 (nextO ws at_).2.2]) else none
  | none => none
 | _ => none
theorem fin_ok {fr : AFr} {H : Heap} {o : Option (Tr Wd)} {a : Int} {e : Nat} (f4 : fr 4 = .optr 0 0 0 0) (h0 : H[0]? = some (rowE 0 false [outA o])) (f5 : fr 5 = .p (.int .i64 a)) (f6 : fr 6 = .p (.int .i64 (e : Int))) : finishP Tab.none lf9.results fr H = some (.tup [outP o, .int .i64 a, .int .i64 (e : Int)]) := by
 cases o with
 | none => simp [lf9, f4, f5, f6, h0, rowE, outA, noTree, outP, noP]
 | some t =>
  obtain ⟨b, k, s, a, l, hen⟩ := encT_shape t
  simp [lf9, f4, f5, f6, h0, rowE, outA, treeV, outP, hen]
def nxTail : LCode := match lf9.body with
 | .seq _ (.seq _ (.seq _ (.seq _ (.seq _ t)))) => t
 | _ => .bad
def nxA : LCode := match lf9.body with
 | .seq a _ => a
 | _ => .bad
def nxB : LCode := match lf9.body with
 | .seq _ (.seq b _) => b
 | _ => .bad
theorem nx_body : lf9.body = .seq nxA (.seq nxB (.seq (.region [⟨some 7, none, .mov (.cst (.tight []))⟩]) (.seq (.region [⟨some 8, none, .mov (.cst (.p (.bool false)))⟩]) (.seq lf9_B0 nxTail)))) := (rfl)
theorem tail_ok {fr : AFr} {H : Heap} {n : Nat} {deep : Bool} (f1 : fr 1 = .p (.int .i64 (n : Int))) (f4 : fr 4 = .optr 0 0 0 0) (f8 : fr 8 = .p (.bool deep)) (h0 : ∃ x, H[0]? = some (rowE 0 false [x]) ∧ C5 x) {Q : LExit → AFr → Heap → Prop}
  (hQ : ∀ fr' H', fr' 4 = .optr 0 0 0 0 → H'[0]? = some (rowE 0 false [outA none]) → fr' 5 = .p (.int .i64 (n : Int)) → fr' 6 = .p (.int .i64 ((if deep = true then 4 else 2 : Nat) : Int)) → Q .ret fr' H') : vc Tab.none nxTail Q fr H := by
 obtain ⟨x, h0, hx⟩ := h0
 have hkl := (List.getElem?_eq_some_iff.1 h0).1
 have key : ∀ fr' : AFr, fr' 4 = fr 4 → fr' 5 = .p (.int .i64 (n : Int)) → fr' 6 = .p (.int .i64 ((if deep = true then 4 else 2 : Nat) : Int)) → Q .ret fr' (H.set 0 (rowE 0 false [noTree])) := fun fr' g4 g5 g6 =>
  hQ _ _ (g4.trans f4) (by rw [List.getElem?_set_self hkl]; rfl) g5 g6
 unfold rowE at h0
 cases hx
 all_goals
  cases deep
  all_goals
   simp [nxTail, lf9, f1, f4, f8, h0]
   exact key _ (by simp) (by simp) (by simp)
theorem next_ok : FnOk Tryd.prog base 9 (pureS sNext) := by
 refine pure_of_vz hmix Tab.none_ok globNone low9 fun args x hs hf => ?_
 unfold sNext at hs
 split at hs
 case h_2 => cases hs
 rename_i vs at_
 split at hs
 case h_2 => cases hs
 rename_i ws hd
 split at hs
 case isFalse => cases hs
 rename_i hw
 have := decW_some hd
 subst this
 cases hs
 refine ⟨by simp [lf9], ?_⟩
 unfold nextO
 by_cases ha : at_ < 0 ∨ (ws.length : Int) ≤ at_
 ·rw [if_pos ha]
  refine VZ.base ?_
  by_cases h1 : at_ < 0
  ·simp [lf9, h1, outP, noP]
  ·have h2 : (ws.length : Int) ≤ at_ := by omega
   simp [lf9, h1, h2, outP, noP]
 ·rw [if_neg ha]
  obtain ⟨i, rfl⟩ : ∃ i : Nat, at_ = i := ⟨at_.toNat, by omega⟩
  have h1 : i < ws.length := by omega
  have h2 : ¬ (i : Int) < 0 := by omega
  have h3 : ¬ (ws.length : Int) ≤ i := by omega
  rw [nx_body]
  refine VZ.seq (fun fr1 H1 => fr1 0 = .p (.lst (ws.map Wd.v)) ∧ fr1 1 = .p (.int .i64 (i : Int)) ∧ fr1 4 = .optr 0 0 0 0 ∧ H1 = [rowE 0 false [noTree]]) (VZ.base ?_) fun fr1 H1 hh => ?_
  ·simp [nxA, lf9, rowE, noTree, thenQ]
  obtain ⟨a0, a1, a4, rfl⟩ := hh
  refine VZ.seq (fun fr2 H2 => (∀ k, k < 5 → fr2 k = fr1 k) ∧ H2 = [rowE 0 false [noTree]]) (VZ.base ?_) fun fr2 H2 hh => ?_
  ·simp [nxB, lf9, a0, a1, h1, h2, h3, thenQ]
   intro k hk
   simp [show ¬ k = 10 by omega, show ¬ k = 11 by omega, show ¬ k = 12 by omega, show ¬ k = 13 by omega, show ¬ k = 14 by omega, show ¬ k = 15 by omega, show ¬ k = 16 by omega, show ¬ k = 17 by omega]
  obtain ⟨hf2, rfl⟩ := hh
  refine VZ.seq (fun fr3 H3 => (∀ k, k < 5 → fr3 k = fr1 k) ∧ fr3 7 = .tight [] ∧ H3 = [rowE 0 false [noTree]]) (VZ.base ?_) fun fr3 H3 hh => ?_
  ·simp [thenQ]
   exact fun k hk => by simp [show ¬ k = 7 by omega, hf2 k hk]
  obtain ⟨hf3, h7, rfl⟩ := hh
  refine VZ.seq (fun fr4 H4 => St ws i i [] false fr4 H4) (VZ.base ?_) fun fr4 H4 hS => ?_
  ·simp [thenQ]
   exact ⟨by simp [hf3 0, a0], by simp [hf3 1, a1], by simp [hf3 4, a4], by simp, ⟨noTree, rfl, .a ..⟩, .inl ⟨by simp [h7], rfl⟩, by simp, by simp⟩
  have hfin : ∀ (fr' : AFr) (H' : Heap) (o : Option (Tr Wd)) (a : Int) (e : Nat), fr' 4 = .optr 0 0 0 0 → H'[0]? = some (rowE 0 false [outA o]) → fr' 5 = .p (.int .i64 a) → fr' 6 = .p (.int .i64 (e : Int)) → ∀ z : PVal, z = .tup [outP o, .int .i64 a, .int .i64 (e : Int)] → endQ Tab.none lf9.results z .ret fr' H' := fun fr' H' o a e g4 g0 g5 g6 z hz => by
   subst hz
   exact fin_ok g4 g0 g5 g6
  refine VZ.seq (fun fr5 H5 => ∃ deep : Bool, run Wd.kind 200 (ws.drop i) [] false = (none, [], if deep = true then 4 else 2) ∧ fr5 1 = .p (.int .i64 (ws.length : Int)) ∧ fr5 4 = .optr 0 0 0 0 ∧ fr5 8 = .p (.bool deep) ∧ (∃ x, H5[0]? = some (rowE 0 false [x]) ∧ C5 x))
   (next_loop hS (by omega) hw (fun fr' H' deep q1 q2 q3 q4 q5 => ⟨deep, q1, q2, q3, q4, q5⟩) (fun fr' H' j o rest e q1 q2 g4 g0 g5 g6 => ?_)) fun fr5 H5 hh => VZ.base ?_
  ·refine hfin fr' H' o _ e g4 g0 g5 g6 _ ?_
   simp only [Int.toNat_natCast, q1]
   congr 3
   congr 1
   omega
  ·obtain ⟨deep, q1, q2, q3, q4, q5⟩ := hh
   refine tail_ok q2 q3 q4 q5 fun fr' H' g4 g0 g5 g6 => hfin fr' H' none _ _ g4 g0 g5 g6 _ ?_
   simp only [Int.toNat_natCast, q1, List.length_nil]
   simp
end Go.Proofs.YtdaiicaeklcceaaDoor
