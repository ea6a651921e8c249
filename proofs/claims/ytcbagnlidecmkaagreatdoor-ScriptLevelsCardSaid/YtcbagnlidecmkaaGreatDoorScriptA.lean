/-
  What script's small functions compute. No conditions beyond the lemmas' own hypotheses.
-/
import Derived.Test.YtcbagnlidecmkaaGreatDoorSexpF
import Derived.Test.YtcbagnlidecmkaaGreatDoorScriptP
import Derived.Test.YtcbagnlidecmkaaGreatDoorScriptL
import Derived.Test.YtcbagnlidecmkaaGreatDoorScriptS
import Derived.Test.YtcbagnlidecmkaaGreatDoorNatB
import Derived.Lib.AppendIntMem
import Derived.Lib.AtoiErrMem
set_option linter.unusedSimpArgs false
set_option linter.unnecessarySimpa false
set_option linter.unusedVariables false
set_option linter.constructorNameAsVariable false

/-
 script: small functions of trees, and copies.
-/
namespace Go.Proofs.YtcbagnlidecmkaaGreatDoor
open Go Go.Abs Go.Lex Go.Sexp
variable {base : Prot}
set_option maxRecDepth 20000
attribute [local simp] pureS touchV freezeL fuel shiftV
theorem FnOk.orS {P : Program} {f : FuncId} {s1 s2 : List PVal → Option (AVal × Heap)} (h1 : FnOk P base f s1) (h2 : FnOk P base f s2) : FnOk P base f fun a => match s1 a with | some r => some r | none => s2 a := by
 refine ⟨h1.1, fun args r E hs => ?_⟩
 simp only at hs
 cases h : s1 args with
 | some q => rw [h] at hs; cases hs; exact h1.2 args r E h
 | none => rw [h] at hs; exact h2.2 args r E hs
def sIs : List PVal → Option PVal
 | [v, .int .i64 k] => match decT v with | some t => some (.bool (isK key k t)) | none => none
 | _ => none
theorem is_ok : FnOk Tryz.prog base 45 (pureS sIs) := by
 refine pure_of_vc hmix Tab.none_ok globNone low45 fun args x hs hf => ?_
 unfold sIs at hs
 split at hs
 case h_2 => cases hs
 split at hs
 case h_2 => cases hs
 rename_i k _ t hd
 have := decT_some hd
 subst this
 cases hs
 refine ⟨by simp [lf45], ?_⟩
 cases t with
 | leaf w => simp [lf45, encT, isK, Lex.key]
 | list l => simp [lf45, encT, isK]
def sy (t : Tr Wd) : List UInt8 := (symT key t).getD []
def sb (t : Tr Wd) : Bool := (symT key t).isSome
def sSym : List PVal → Option PVal
 | [v] => match decT v with | some t => some (.tup [.str (sy t), .bool (sb t)]) | none => none
 | _ => none
def Tsy : Tab := Tab.none.with 45 (pureS sIs)
theorem Tsy_ok : TabOk Tryz.prog base Tsy := Tab.with_ok Tab.none_ok is_ok
theorem Tsy_mu (f : FuncId) (a : List AVal) (H : Heap) : Tsy.mu f a H = none := (rfl)
theorem Tsy_1 : Tsy.fn 45 = pureS sIs := (rfl)
attribute [local simp] Tsy_mu Tsy_1
theorem sIs_at (t : Tr Wd) (k : Int) : sIs [encT t, .int .i64 k] = some (.bool (isK key k t)) := by simp only [sIs, decT_enc]
theorem sSym_at (t : Tr Wd) : sSym [encT t] = some (.tup [.str (sy t), .bool (sb t)]) := by simp only [sSym, decT_enc]
theorem symbol_ok : FnOk Tryz.prog base 22 (pureS sSym) := by
 refine pure_of_vc hmix Tsy_ok globNone low22 fun args x hs hf => ?_
 unfold sSym at hs
 split at hs
 case h_2 => cases hs
 split at hs
 case h_2 => cases hs
 rename_i t hd
 have := decT_some hd
 subst this
 cases hs
 refine ⟨by simp [lf22], ?_⟩
 have hi := sIs_at t 3
 cases t with
 | leaf w =>
  by_cases h3 : w.kind = 3
  ·have e1 : isK key 3 (.leaf w) = true := by simp [isK, Lex.key, h3]
   have e2 : sy (.leaf w) = w.text := by simp [sy, symT, Lex.key, h3]
   have e3 : sb (.leaf w) = true := by simp [sb, symT, Lex.key, h3]
   rw [e1] at hi
   simp only [encT] at hi
   simp [lf22, encT, hi, e2, e3]
  ·have e1 : isK key 3 (.leaf w) = false := by simp [isK, Lex.key, h3]
   have e2 : sy (.leaf w) = [] := by simp [sy, symT, Lex.key, h3]
   have e3 : sb (.leaf w) = false := by simp [sb, symT, Lex.key, h3]
   rw [e1] at hi
   simp only [encT] at hi
   simp [lf22, encT, hi, e2, e3]
 | list l =>
  have e1 : isK key 3 (.list l) = false := rfl
  have e2 : sy (.list l) = [] := rfl
  have e3 : sb (.list l) = false := rfl
  rw [e1] at hi
  simp only [encT] at hi
  simp [lf22, encT, hi, e2, e3]
def noneT : Tr Wd → Bool
 | .leaf w => w.kind == 0
 | .list _ => false
def sNone : List PVal → Option PVal
 | [v] => match decT v with | some t => some (.bool (noneT t)) | none => none
 | _ => none
theorem none_ok : FnOk Tryz.prog base 28 (pureS sNone) := by
 refine pure_of_vc hmix Tab.none_ok globNone low28 fun args x hs hf => ?_
 unfold sNone at hs
 split at hs
 case h_2 => cases hs
 split at hs
 case h_2 => cases hs
 rename_i t hd
 have := decT_some hd
 subst this
 cases hs
 refine ⟨by simp [lf28], ?_⟩
 cases t with
 | leaf w => simp [lf28, encT, noneT]
 | list l => simp [lf28, encT, noneT]
def sCl : List PVal → Option (List PVal)
 | [.lst vs] => match decTL vs with | some (t :: l) => if l.length ≤ 1000000 then some vs else none | _ => none
 | _ => none
def sCl0 : List PVal → Option PVal
 | [.lst []] => some (.lst [])
 | _ => none
theorem cl_ok : FnOk Tryz.prog base 71 (freshS 5 29 sCl) := by
 refine fresh_of_vc hmix Tab.none_ok globNone low71 fun args es hs hf => ?_
 unfold sCl at hs
 split at hs
 case h_2 => cases hs
 split at hs
 case h_2 => cases hs
 rename_i t l hd
 have := decL_some hd
 subst this
 split at hs
 case isFalse => cases hs
 rename_i hlen
 cases hs
 refine ⟨by simp [lf71], ?_⟩
 have h1 : (l.length + 1) * 64 ≤ 140737488355328 := by omega
 have h2 : l.length + 1 ≤ maxLen := by unfold maxLen; omega
 have hall : ∀ (u : Tr Wd), ∃ b k s a vs, encT u = .agg [.bool b, .int .i64 k, .str s, .int .i64 a, .lst vs] := encT_shape
 obtain ⟨b, k, s, a, vs, hen⟩ := hall t
 simp [lf71, fillS, encL, hen, h1, h2, freshQ, encL_len]
 rw [if_pos (fun x hx => ?_)]
 ·simp [freshQ, encL_len]
  exact ⟨0, 1, ⟨rfl, rfl⟩, _, rfl, rfl, rfl, rfl, rfl, rfl⟩
 ·rw [encL_map] at hx
  obtain ⟨v, _, rfl⟩ := List.mem_map.1 hx
  obtain ⟨b, k, s, a, vs, hev⟩ := hall v
  rw [hev]
  refine ⟨rfl, fun y hy => ?_⟩
  have hy' : y ∈ [PVal.bool b, .int .i64 k, .str s, .int .i64 a, .lst vs] := hy
  simp only [List.mem_cons, List.mem_nil_iff, or_false] at hy'
  rcases hy' with rfl | rfl | rfl | rfl | rfl <;> rfl
theorem cl0_ok : FnOk Tryz.prog base 71 (pureS sCl0) := by
 refine pure_of_vc hmix Tab.none_ok globNone low71 fun args x hs hf => ?_
 unfold sCl0 at hs
 split at hs
 case h_2 => cases hs
 cases hs
 refine ⟨by simp [lf71], ?_⟩
 simp [lf71, fillS]
def sClone (args : List PVal) : Option (AVal × Heap) := match freshS 5 29 sCl args with | some r => some r | none => pureS sCl0 args
theorem clone_ok : FnOk Tryz.prog base 71 sClone := FnOk.orS cl_ok cl0_ok
theorem sClone_nil : sClone [.lst []] = some (.p (.lst []), []) := rfl
theorem sClone_cons (t : Tr Wd) (l : List (Tr Wd)) (hl : l.length ≤ 1000000) : sClone [.lst (encL (t :: l))] = some (.own 0 0 (l.length + 1) 0, [rowE 0 false ((t :: l).map treeV)]) := by
 have : sCl [.lst (encL (t :: l))] = some (encL (t :: l)) := by
  simp only [sCl, decL_enc]
  rw [if_pos hl]
 simp only [sClone, freshS, this]
 rw [encL_len, encL_map, rowE, List.map_map]
 rfl
theorem shift_row (n : Nat) (l : List (Tr Wd)) : shiftE n (rowE 0 false (l.map treeV)) = rowE 0 false (l.map treeV) := by
 have : shiftV n ∘ treeV = treeV := by funext t; simp [treeV, shiftV]
 simp only [shiftE, rowE, List.map_map, this]
def sCopyM (m : Nat) : List PVal → Option PVal
 | [v] => match decT v with
  | some t => if t.size < m ∧ t.size ≤ 1000000 then some v else none
  | none => none
 | _ => none
def sCopy : List PVal → Option PVal
 | [v] => match decT v with
  | some t => if t.size ≤ 1000000 then some v else none
  | none => none
 | _ => none
def Tcp (n : Nat) : Tab := (Tab.none.with 71 sClone).with 52 (pureS (sCopyM n))
theorem Tcp_mu (n : Nat) (f : FuncId) (a : List AVal) (H : Heap) : (Tcp n).mu f a H = none := (rfl)
theorem Tcp_1 (n : Nat) : (Tcp n).fn 71 = sClone := (rfl)
theorem Tcp_2 (n : Nat) : (Tcp n).fn 52 = pureS (sCopyM n) := (rfl)
attribute [local simp] Tcp_mu Tcp_1 Tcp_2
theorem copy_step (n : Nat) (ih : FnOk Tryz.prog base 52 (pureS (sCopyM n))) : FnOk Tryz.prog base 52 (pureS (sCopyM (n + 1))) := by
 have hT : TabOk Tryz.prog base (Tcp n) := Tab.with_ok (Tab.with_ok Tab.none_ok clone_ok) ih
 refine pure_of_vc hmix hT globNone low52 fun args x hs hf => ?_
 unfold sCopyM at hs
 split at hs
 case h_2 => cases hs
 rename_i v
 split at hs
 case h_2 => cases hs
 rename_i t hd
 split at hs
 case isFalse => cases hs
 rename_i hw
 have := decT_some hd
 subst this
 cases hs
 refine ⟨by simp [lf52], ?_⟩
 obtain ⟨isl, kd, tx, at_, kids, e0, hk, hw2⟩ : ∃ (isl : Bool) (kd : Int) (tx : List UInt8) (at_ : Int) (kids : List (Tr Wd)), encT t = .agg [.bool isl, .int .i64 kd, .str tx, .int .i64 at_, .lst (encL kids)] ∧ sizeL kids < n ∧ sizeL kids ≤ 1000000 := by
  cases t with
  | leaf w => exact ⟨false, w.kind, w.text, w.at_, [], rfl, by simp [Tr.size, sizeL] at hw ⊢; omega, by simp [sizeL]⟩
  | list l => exact ⟨true, 0, [], 0, l, rfl, by simp only [Tr.size] at hw; omega, by simp only [Tr.size] at hw; omega⟩
 rw [e0]
 cases kids with
 | nil =>
  have hc := sClone_nil
  simp [lf52, encL, hc]
  simp only [lf52_B0, vc_block]
  refine loop_ind (fun fr H => fr 11 = .p (.int .i64 0) ∧ fr 12 = .p (.int .i64 0) ∧ fr 1 = .optr 0 0 0 0 ∧ fr 2 = .optr 1 0 0 0 ∧ H = [rowE 0 false [.p (.agg [.bool isl, .int .i64 kd, .str tx, .int .i64 at_, .lst []])], rowE 0 false [.agg [.p (.bool false), .p (.int .i64 0), .p (.str []), .p (.int .i64 0), .tight []]]]) (fun _ _ => 0) ⟨by simp, by simp, by simp, by simp, by simp [rowE]⟩ ?_
  rintro fr H ⟨h11, h12, h1, h2, rfl⟩
  simp [h11, h12, h1, h2, rowE]
 | cons u kids =>
  have hkl := len_size (u :: kids)
  simp only [List.length_cons] at hkl
  have hc := sClone_cons u kids (by omega)
  have hsh : shiftE 2 (rowE 0 false ((u :: kids).map treeV)) = rowE 0 false ((u :: kids).map treeV) := shift_row _ _
  simp only [rowE, List.map_cons] at hsh hc
  simp [lf52, hc, rowE, hsh]
  simp only [lf52_B0, vc_block]
  refine loop_ind (fun fr H => ∃ i : Nat, i ≤ kids.length + 1 ∧ fr 10 = .own 2 0 (kids.length + 1) 0 ∧ fr 11 = .p (.int .i64 ((kids.length : Int) + 1)) ∧ fr 12 = .p (.int .i64 (i : Int)) ∧ fr 1 = .optr 0 0 0 0 ∧ fr 2 = .optr 1 0 0 0 ∧
    ∃ R : Heap, H = rowE 0 false [.agg [.p (.bool isl), .p (.int .i64 kd), .p (.str tx), .p (.int .i64 at_), .own 2 0 (kids.length + 1) 0]] :: rowE 0 false [.agg [.p (.bool false), .p (.int .i64 0), .p (.str []), .p (.int .i64 0), .tight []]] :: rowE 0 false ((u :: kids).map treeV) :: R)
   (fun fr _ => kids.length + 1 - ivar (fr 12)) ⟨0, by simp, by simp, by simp, by simp, by simp, by simp, [], by simp [rowE]⟩ ?_
  rintro fr H ⟨i, hi, h10, h11, h12, h1, h2, R0, rfl⟩
  by_cases hlt : i < kids.length + 1
  ·obtain ⟨t, hti⟩ : ∃ t, (u :: kids)[i]? = some t := ⟨_, List.getElem?_eq_getElem (by simpa using hlt)⟩
   have hmem := List.mem_of_getElem? hti
   have hsz := size_mem hmem
   have hst : sCopyM n [encT t] = some (encT t) := by
    simp only [sCopyM, decT_enc]
    rw [if_pos ⟨by omega, by omega⟩]
   have hrow : ((u :: kids).map treeV)[i]? = some (treeV t) := by rw [List.getElem?_map, hti]; rfl
   have hset : ((u :: kids).map treeV).set i (treeV t) = (u :: kids).map treeV := by
    apply List.ext_getElem?
    intro j
    by_cases e : i = j
    ·subst e; rw [List.getElem?_set_self (by simpa using hlt), hrow]
    ·rw [List.getElem?_set_ne e]
   have hlt' : (i : Int) < (kids.length : Int) + 1 := by omega
   have ge : ∀ a : Ent, (R0 ++ [a])[R0.length]? = some a := fun a => by simp
   have se : ∀ a b : Ent, (R0 ++ [a]).set R0.length b = R0 ++ [b] := fun a b => by
    rw [List.set_append_right _ _ (Nat.le_refl _), Nat.sub_self]; rfl
   have hlen : ((u :: kids).map treeV).length = kids.length + 1 := by simp
   obtain ⟨b, k, s, a, vs, hen⟩ := encT_shape t
   generalize hR : (u :: kids).map treeV = R at *
   unfold treeV at hrow hset
   rw [hen] at hst hrow hset
   simp [h10, h11, h12, h1, h2, hlt', hlen, hrow, hset, hst, rowE, ge, se, wrap_succ (i := i) (by omega)]
   rw [vc_regionW]
   refine ⟨[], ?_⟩
   simp [h10, h11, h12, h1, h2, hlt', hlen, hrow, hset, hst, rowE, ge, se, wrap_succ (i := i) (by omega)]
   exact ⟨⟨i + 1, by omega, by simp⟩, by simp only [ivar]; omega⟩
  ·have hil : i = kids.length + 1 := by omega
   subst hil
   have hm : ∀ H : Heap, mapO (resolveV H 6) (kids.map treeV) = some (encL kids) := fun H => mapO_row H 6 kids
   have hu : ∀ H : Heap, resolveV H 6 (treeV u) = some (encT u) := fun H => rfl
   have htk : (kids.map treeV).take kids.length = kids.map treeV := List.take_of_length_le (by simp)
   simp [h10, h11, h12, h1, h2, rowE, htk, hm, hu, encL]
theorem copy_ok : FnOk Tryz.prog base 52 (pureS sCopy) := by
 refine FnOk.union (s := sCopyM) (FnOk.steps ?_ copy_step) fun args x hs => ?_
 ·refine pure_of_vc hmix Tab.none_ok globNone low52 fun args x hs hf => ?_
  exfalso
  unfold sCopyM at hs
  split at hs
  case h_2 => cases hs
  split at hs
  case h_2 => cases hs
  rw [if_neg (by omega)] at hs
  cases hs
 ·unfold sCopy at hs
  split at hs
  case h_2 => cases hs
  rename_i v
  split at hs
  case h_2 => cases hs
  rename_i t hd
  split at hs
  case isFalse => cases hs
  rename_i hw
  exact ⟨t.size + 1, by simp only [sCopyM, hd]; rw [if_pos ⟨by omega, hw⟩]; exact hs⟩
theorem sCopy_at {t : Tr Wd} (h : t.size ≤ 1000000) : sCopy [encT t] = some (encT t) := by
 simp only [sCopy, decT_enc]
 rw [if_pos h]
end Go.Proofs.YtcbagnlidecmkaaGreatDoor

/-
 script: names, small numerals, rows of strings.
-/
namespace Go.Proofs.YtcbagnlidecmkaaGreatDoor
open Go Go.Abs Go.Lex Go.Sexp
open Nn (sDig digS isD digits_ok)
variable {base : Prot}
set_option maxRecDepth 20000
attribute [local simp] pureS touchV freezeL fuel shiftV
def nmText : List UInt8 := [115,101,116,45,108,111,103,105,99,32,115,101,116,45,111,112,116,105,111,110,32,115,101,116,45,105,110,102,111,32,100,101,99,108,97,114,101,45,115,111,114,116,32,100,101,99,108,97,114,101,45,102,117,110,32,100,101,102,105,110,101,45,102,117,110,32,97,115,115,101,114,116,32,112,117,115,104,32,112,111,112,32,99,104,101,99,107,45,115,97,116,32,103,101,116,45,109,111,100,101,108,32,103,101,116,45,118,97,108,117,101,32,101,99,104,111,32,114,101,115,101,116,32,101,120,105,116]
def sFieldsN : List PVal → Option PVal
 | [.str s] => if s = nmText then some (.lst (nmList.map .str)) else none
 | _ => none
theorem fieldsN_run : runP Tab.none 1000 lf24 [.str nmText] = some (.lst (nmList.map .str)) := by kernel_rfl
theorem fieldsN_ok : FnOk Tryz.prog base1 24 (pureS sFieldsN) := by
 refine pure_of_run hmix Tab.none_ok glob1 low24 1000 fun args x hs => ?_
 unfold sFieldsN at hs
 split at hs
 case h_2 => cases hs
 split at hs
 case isFalse => cases hs
 rename_i e
 subst e
 cases hs
 exact fieldsN_run
theorem idx_kind (w : List UInt8) : idxFrom nmList w 0 + 1 = (kindOf w : Int) := by
 have key : ∀ (l : List (List UInt8)) (i : Nat), idxFrom l w i = (match l.idxOf? w with | some j => ((i + j : Nat) : Int) | none => -1) := by
  intro l
  induction l with
  | nil => intro i; rfl
  | cons a l ih =>
   intro i
   rw [idxFrom_cons, ih]
   by_cases h : w = a
   ·subst h
    simp [List.idxOf?, List.findIdx?_cons]
   ·have hb : (a == w) = false := by simpa using Ne.symm h
    rw [if_neg h]
    simp only [List.idxOf?, List.findIdx?_cons, hb]
    cases List.findIdx? (fun x => x == w) l with
    | none => rfl
    | some j =>
     show ((i + 1 + j : Nat) : Int) = ((i + (j + 1) : Nat) : Int)
     congr 1; omega
 rw [key]
 unfold kindOf
 cases nmList.idxOf? w with
 | none => rfl
 | some j => simp
theorem decS_nm : decS (nmList.map .str) = some nmList := by kernel_rfl
theorem index_nm (w : List UInt8) : sIndex [.lst (nmList.map .str), .str w] = some (.int .i64 ((kindOf w : Int) - 1)) := by
 have h := idx_kind w
 simp only [sIndex, decS_nm]
 rw [show idxFrom nmList w 0 = (kindOf w : Int) - 1 by omega]
def sAtoi : List PVal → Option PVal
 | [.str s] => if s.all isDigit = true ∧ s ≠ [] ∧ s.length ≤ 4 then some (.tup [.int .i64 (decN s), .nili]) else none
 | _ => none
theorem dec_from : ∀ (l : List UInt8) (a : Nat), l.all isDigit = true → Lib.decFrom a l = some (l.foldl (fun n c => n * 10 + (c.toNat - 48)) a)
 | [], _, _ => rfl
 | c :: l, a, h => by
  rw [List.all_cons, Bool.and_eq_true] at h
  have hc : Lib.digitVal c = some (c.toNat - 48) := by
   have := h.1
   simp only [isDigit, Bool.and_eq_true, decide_eq_true_eq] at this
   unfold Lib.digitVal
   rw [if_pos ⟨by omega, by omega⟩]
  simp only [Lib.decFrom, hc, List.foldl_cons]
  exact dec_from l _ h.2
theorem atoi_dec {s : List UInt8} (h : s.all isDigit = true) (h0 : s ≠ []) : Lib.atoi s = some (decN s : Int) := by
 cases s with
 | nil => exact absurd rfl h0
 | cons c r =>
  have hd := h
  rw [List.all_cons, Bool.and_eq_true] at hd
  have hc := hd.1
  simp only [isDigit, Bool.and_eq_true, decide_eq_true_eq] at hc
  have e1 : (c == 45) = false := by
   have : c ≠ 45 := by rintro rfl; exact absurd hc.1 (by decide)
   simpa using this
  have e2 : (c == 43) = false := by
   have : c ≠ 43 := by rintro rfl; exact absurd hc.1 (by decide)
   simpa using this
  have e3 : Lib.decNat (c :: r) = some (decN (c :: r)) := by
   unfold Lib.decNat
   rw [if_neg (by simp)]
   exact dec_from _ 0 h
  simp only [Lib.atoi, e1, e2, e3]
  rfl
theorem atoi_ok : FnOk Tryz.prog base 84 (pureS sAtoi) := by
 refine fn_of_callsI (by kernel_rfl) fun ps x hs c w vs hI hl hr => ?_
 unfold sAtoi at hs
 split at hs
 case h_2 => cases hs
 rename_i s
 split at hs
 case isFalse => cases hs
 rename_i hc
 obtain ⟨h1, h2, h3⟩ := hc
 cases hs
 match vs, hl with
 | [v0], _ =>
  have r0 := hr 0 _ v0 rfl rfl
  cases r0
  refine (Tryz.strconv_Atoi ⟨s.toArray⟩ (decN s) (by show s.toArray.size ≤ 18; simp; omega) (atoi_dec h1 h2) w).mono ?_
  rintro e w' ⟨rfl, t, rfl⟩
  refine ⟨_, rfl, ?_, Lib.bytesWorld_below w _ _⟩
  refine .tup _ [.int .i64 (decN s), .nilIface] rfl fun j x v h1 h2 => ?_
  match j, h1, h2 with
  | 0, h1, h2 => cases h1; cases h2; exact .int _ _
  | 1, h1, h2 => cases h1; cases h2; exact .nili
def numM (s : List UInt8) : Nat × Bool := if s.all isDigit = true ∧ s ≠ [] ∧ s.length ≤ 4 then (decN s, decide (decN s ≤ 1000)) else (0, false)
theorem numM_K (s : List UInt8) : numK s = if (numM s).2 = true then some (numM s).1 else none := by
 unfold numK numM
 by_cases h : s.all isDigit = true ∧ s ≠ [] ∧ s.length ≤ 4
 ·rw [if_pos h]
  by_cases h2 : decN s ≤ 1000
  ·rw [if_pos ⟨h.1, h.2.1, h.2.2, h2⟩, if_pos (by simpa using h2)]
  ·rw [if_neg (fun e => h2 e.2.2.2), if_neg (by simpa using h2)]
 ·rw [if_neg h, if_neg (fun e => h ⟨e.1, e.2.1, e.2.2.1⟩), if_neg (by simp)]
def sNum : List PVal → Option PVal
 | [.str s] => some (.tup [.int .i64 (numM s).1, .bool (numM s).2])
 | _ => none
def Tnm : Tab := (Tab.none.with 83 (pureS sDig)).with 84 (pureS sAtoi)
theorem Tnm_ok : TabOk Tryz.prog base Tnm := Tab.with_ok (Tab.with_ok Tab.none_ok digits_ok) atoi_ok
theorem Tnm_mu (f : FuncId) (a : List AVal) (H : Heap) : Tnm.mu f a H = none := (rfl)
theorem Tnm_1 : Tnm.fn 83 = pureS sDig := (rfl)
theorem Tnm_2 : Tnm.fn 84 = pureS sAtoi := (rfl)
attribute [local simp] Tnm_mu Tnm_1 Tnm_2
theorem dig_is (s : List UInt8) : digS s = (s.all isDigit && !s.isEmpty) := by
 have e : ∀ b : UInt8, isD b = isDigit b := fun b => by
  unfold isD isDigit
  rw [Bool.eq_iff_iff]
  simp only [decide_eq_true_eq, Bool.and_eq_true]
  omega
 unfold digS
 rw [Bool.and_comm]
 congr 1
 exact congrArg (fun p => s.all p) (funext e)
theorem number_ok : FnOk Tryz.prog base 68 (pureS sNum) := by
 refine pure_of_vc hmix Tnm_ok globNone low68 fun args x hs hf => ?_
 unfold sNum at hs
 split at hs
 case h_2 => cases hs
 rename_i s
 cases hs
 refine ⟨by simp [lf68], ?_⟩
 have hdg : sDig [.str s] = some (.bool (digS s)) := rfl
 by_cases hd : digS s = true
 ·have h1 := hd
  rw [dig_is, Bool.and_eq_true] at h1
  have h0 : s ≠ [] := by have := h1.2; simpa using this
  by_cases h4 : s.length ≤ 4
  ·have ha : sAtoi [.str s] = some (.tup [.int .i64 (decN s), .nili]) := by
    simp only [sAtoi]
    rw [if_pos ⟨h1.1, h0, h4⟩]
   have hm : numM s = (decN s, decide (decN s ≤ 1000)) := by unfold numM; rw [if_pos ⟨h1.1, h0, h4⟩]
   have h4' : ¬ (4 : Int) < s.length := by omega
   simp [lf68, hdg, hd, h4', ha, hm]
   omega
  ·have hm : numM s = (0, false) := by unfold numM; rw [if_neg (fun e => h4 e.2.2)]
   have h4' : (4 : Int) < s.length := by omega
   simp [lf68, hdg, hd, h4', hm]
 ·have hd' : digS s = false := by simpa using hd
  have hm : numM s = (0, false) := by
   unfold numM
   rw [if_neg (fun e => hd (by rw [dig_is, e.1]; simpa using e.2.1))]
  simp [lf68, hdg, hd', hm]
end Go.Proofs.YtcbagnlidecmkaaGreatDoor

/-
 script: a name among the parameters; symbols and lists as they are written.
-/
namespace Go.Proofs.YtcbagnlidecmkaaGreatDoor
open Go Go.Abs Go.Lex Go.Sexp
variable {base : Prot}
set_option maxRecDepth 20000
attribute [local simp] pureS touchV freezeL fuel shiftV
abbrev Par := List UInt8 × List UInt8
def parP (q : Par) : PVal := .agg [.str q.1, .str q.2]
def decPr : List PVal → Option (List Par)
 | [] => some []
 | .agg [.str a, .str b] :: r => match decPr r with | some l => some ((a, b) :: l) | none => none
 | _ :: _ => none
theorem decPr_map : ∀ l : List Par, decPr (l.map parP) = some l
 | [] => rfl
 | q :: l => by
  show (match decPr (l.map parP) with | some l => some ((q.1, q.2) :: l) | none => none) = _
  rw [decPr_map l]
theorem decPr_some : ∀ {vs : List PVal} {l : List Par}, decPr vs = some l → vs = l.map parP
 | [], l, h => by cases h; rfl
 | v :: r, l, h => by
  unfold decPr at h
  split at h
  ·rename_i heq; cases heq
  ·rename_i a b r' heq
   cases heq
   split at h
   ·rename_i l' hl
    cases h
    rw [decPr_some hl]; rfl
   ·cases h
  ·cases h
def sDf1 : List PVal → Option PVal
 | [.agg [.str a, .str _], .cptr [.str n]] => some (.bool (a == n))
 | _ => none
theorem df1_ok : FnOk Tryz.prog base 70 (pureS sDf1) := by
 refine pure_of_vc hmix Tab.none_ok globNone low70 fun args x hs hf => ?_
 unfold sDf1 at hs
 split at hs
 case h_2 => cases hs
 rename_i a b n
 cases hs
 refine ⟨by simp [lf70], ?_⟩
 simp [lf70, binS]
def idxP (n : List UInt8) : List Par → Nat → Int
 | [], _ => -1
 | q :: r, i => if q.1 = n then i else idxP n r (i + 1)
theorem idxP_contains (n : List UInt8) : ∀ (l : List Par) (i : Nat), decide (0 ≤ idxP n l i) = (l.map Prod.fst).contains n
 | [], _ => by simp [idxP]
 | q :: r, i => by
  unfold idxP
  split
  ·rename_i h; subst h; simp
  ·rename_i h
   rw [idxP_contains n r (i + 1), List.map_cons, List.contains_cons]
   have : (n == q.1) = false := by simpa using Ne.symm h
   rw [this, Bool.false_or]
def sIxP : List PVal → Option PVal
 | [.lst vs, .clo f [.cptr [.str n]]] => if f = 70 then (match decPr vs with | some l => if l.length ≤ 1000000 then some (.int .i64 (idxP n l 0)) else none | none => none) else none
 | _ => none
def Tix : Tab := Tab.none.with 70 (pureS sDf1)
theorem Tix_ok : TabOk Tryz.prog base Tix := Tab.with_ok Tab.none_ok df1_ok
theorem Tix_mu (f : FuncId) (a : List AVal) (H : Heap) : Tix.mu f a H = none := (rfl)
theorem Tix_1 : Tix.fn 70 = pureS sDf1 := (rfl)
attribute [local simp] Tix_mu Tix_1
theorem ixp_ok : FnOk Tryz.prog base 85 (pureS sIxP) := by
 refine pure_of_vc hmix Tix_ok globNone low85 fun args x hs hf => ?_
 unfold sIxP at hs
 split at hs
 case h_2 => cases hs
 rename_i vs f n
 split at hs
 case isFalse => cases hs
 rename_i hfe
 subst hfe
 split at hs
 case h_2 => cases hs
 rename_i l hd
 split at hs
 case isFalse => cases hs
 rename_i hl
 have := decPr_some hd
 subst this
 cases hs
 refine ⟨by simp [lf85], ?_⟩
 simp [lf85]
 simp only [lf85_B0, vc_block]
 refine loop_ind (fun fr H => ∃ i : Nat, i ≤ l.length ∧ fr 0 = .p (.lst (l.map parP)) ∧ fr 1 = .p (.clo 70 [.cptr [.str n]]) ∧ fr 7 = .p (.int .i64 (l.length : Int)) ∧ fr 8 = .p (.int .i64 (i : Int)) ∧ idxP n l 0 = idxP n (l.drop i) i)
  (fun fr _ => l.length - ivar (fr 8)) ⟨0, by simp, by simp, by simp, by simp, by simp, by simp⟩ ?_
 rintro fr H ⟨i, hi, h0, h1, h7, h8, hx⟩
 by_cases hlt : i < l.length
 ·obtain ⟨q, hq⟩ : ∃ q, l[i]? = some q := ⟨_, List.getElem?_eq_getElem hlt⟩
  obtain ⟨_, hq'⟩ := List.getElem?_eq_some_iff.1 hq
  rw [List.drop_eq_getElem_cons hlt, hq', idxP] at hx
  have hd1 : sDf1 [.agg [.str q.1, .str q.2], .cptr [.str n]] = some (.bool (q.1 == n)) := rfl
  have hp : parP q = .agg [.str q.1, .str q.2] := rfl
  by_cases he : q.1 = n
  ·rw [if_pos he] at hx
   have hb : (q.1 == n) = true := by simpa using he
   rw [hb] at hd1
   rw [hx]
   simp [h0, h1, h7, h8, hlt, hq', hp, hd1]
  ·rw [if_neg he] at hx
   have hb : (q.1 == n) = false := by simpa using he
   rw [hb] at hd1
   simp [h0, h1, h7, h8, hlt, hq', hp, hd1, wrap_succ (i := i) (by omega)]
   exact ⟨⟨i + 1, by omega, by simp, hx⟩, by simp only [ivar]; omega⟩
 ·have hil : i = l.length := by omega
  subst hil
  rw [List.drop_length] at hx
  simp [h0, h1, h7, h8, hx, idxP]
def sCtP : List PVal → Option PVal
 | [.lst vs, .clo f [.cptr [.str n]]] => if f = 70 then (match decPr vs with | some l => if l.length ≤ 1000000 then some (.bool ((l.map Prod.fst).contains n)) else none | none => none) else none
 | _ => none
def Tcf : Tab := Tab.none.with 85 (pureS sIxP)
theorem Tcf_ok : TabOk Tryz.prog base Tcf := Tab.with_ok Tab.none_ok ixp_ok
theorem Tcf_mu (f : FuncId) (a : List AVal) (H : Heap) : Tcf.mu f a H = none := (rfl)
theorem Tcf_1 : Tcf.fn 85 = pureS sIxP := (rfl)
attribute [local simp] Tcf_mu Tcf_1
theorem ctp_ok : FnOk Tryz.prog base 69 (pureS sCtP) := by
 refine pure_of_vc hmix Tcf_ok globNone low69 fun args x hs hf => ?_
 unfold sCtP at hs
 split at hs
 case h_2 => cases hs
 rename_i vs f n
 split at hs
 case isFalse => cases hs
 rename_i hfe
 subst hfe
 split at hs
 case h_2 => cases hs
 rename_i l hd
 split at hs
 case isFalse => cases hs
 rename_i hl
 have := decPr_some hd
 subst this
 cases hs
 refine ⟨by simp [lf69], ?_⟩
 have h1 : sIxP [.lst (l.map parP), .clo 70 [.cptr [.str n]]] = some (.int .i64 (idxP n l 0)) := by
  simp only [sIxP, decPr_map]
  rw [if_pos trivial, if_pos hl]
 rw [← idxP_contains n l 0]
 simp [lf69, h1]
variable {m : Int}
def sSm : List PVal → Option PVal
 | [.str s] => if s.length ≤ 100000 ∧ (wrW 3 s).length ≤ 100000 then some (.str (wrW 3 s)) else none
 | _ => none
noncomputable def Tsm : Tab := Tab.none.with 29 (pureS sShow)
theorem Tsm_ok : TabOk Tryz.prog (base2 m) Tsm := Tab.with_ok Tab.none_ok show_ok
theorem Tsm_mu (f : FuncId) (a : List AVal) (H : Heap) : Tsm.mu f a H = none := (rfl)
theorem Tsm_1 : Tsm.fn 29 = pureS sShow := (rfl)
attribute [local simp] Tsm_mu Tsm_1
theorem show_leaf {k : Int} {s : List UInt8} {i : Nat} (h1 : s.length ≤ 100000) (h2 : (wrW k s).length ≤ 100000) : sShow [.agg [.bool false, .int .i64 k, .str s, .int .i64 i, .lst []]] = some (.str (wrW k s)) := by
 have e : sShow [encT (.leaf ⟨k, s, i⟩)] = some (.str (showT (.leaf ⟨k, s, i⟩))) := by
  simp only [sShow, decT_enc]
  exact if_pos ⟨by simp [Tr.size], h1, h2⟩
 exact e
theorem sym_ok : FnOk Tryz.prog (base2 m) 27 (pureS sSm) := by
 refine pure_of_vc hmix Tsm_ok globNone low27 fun args x hs hf => ?_
 unfold sSm at hs
 split at hs
 case h_2 => cases hs
 rename_i s
 split at hs
 case isFalse => cases hs
 rename_i hc
 cases hs
 have hsh := show_leaf (k := 3) (s := s) (i := 0) hc.1 hc.2
 refine ⟨by simp [lf27], ?_⟩
 simp at hsh
 simp [lf27, hsh]
def listT (l : List (List UInt8)) : List UInt8 := 40 :: (Lib.join l [32] ++ [41])
def sLs : List PVal → Option PVal
 | [.lst vs] => match decQ vs with
  | some l => if (Lib.join l [32]).length ≤ 900000 ∧ l.length ≤ 1000000 then some (.str (listT l)) else none
  | none => none
 | _ => none
def Tls : Tab := Tab.none.with 56 (pureS sJoin)
theorem Tls_ok : TabOk Tryz.prog base Tls := Tab.with_ok Tab.none_ok join_ok
theorem Tls_mu (f : FuncId) (a : List AVal) (H : Heap) : Tls.mu f a H = none := (rfl)
theorem Tls_1 : Tls.fn 56 = pureS sJoin := (rfl)
attribute [local simp] Tls_mu Tls_1
theorem list_ok : FnOk Tryz.prog base 32 (pureS sLs) := by
 refine pure_of_vc hmix Tls_ok globNone low32 fun args x hs hf => ?_
 unfold sLs at hs
 split at hs
 case h_2 => cases hs
 rename_i vs
 split at hs
 case h_2 => cases hs
 rename_i l hd
 split at hs
 case isFalse => cases hs
 rename_i hc
 have := decQ_some hd
 subst this
 cases hs
 have hj : sJoin [.lst (strsP l), .str [32]] = some (.str (Lib.join l [32])) := by
  simp only [sJoin, decQ_map]
  rw [if_pos ⟨by omega, hc.2⟩]
 have hb1 : 1 + (Lib.join l [32]).length ≤ maxLen := by unfold maxLen; omega
 have hb2 : (Lib.join l [32]).length + 1 + 1 ≤ maxLen := by unfold maxLen; omega
 refine ⟨by simp [lf32], ?_⟩
 simp [lf32, hj, binS, hb1, hb2, listT]
end Go.Proofs.YtcbagnlidecmkaaGreatDoor
