/-
  What strings.Contains and Fields compute on lex's tables, and what sorts.Reserved computes. No conditions beyond the lemmas' own hypotheses.
-/
import Derived.Test.YtcbagnlidecmkaaGreatDoorLexA
import Derived.Test.YtcbagnlidecmkaaGreatDoorAbsThree
import Derived.Test.YtcbagnlidecmkaaGreatDoorLexP
set_option linter.unusedSimpArgs false
set_option linter.unnecessarySimpa false
set_option linter.unusedVariables false
set_option linter.constructorNameAsVariable false

/-
 lex: the words that have a meaning of their own.
-/
namespace Go.Proofs.YtcbagnlidecmkaaGreatDoor
open Go Go.Abs Go.Lex
set_option maxRecDepth 100000
def spaceCell (i : Nat) : Int := if (9 ≤ i ∧ i ≤ 13) ∨ i = 32 then 1 else 0
def asciiCells : List PVal := (List.range 256).map fun i => .int .u8 (spaceCell i)
def gl1 : Nat → AVal := fun g => if g = 0 then .p (.cptr asciiCells) else .junk
def lf24_B0 : LCode := .block 0 (.loop (.seq (.seq (.region [Om 13 6,Om 14 0,Oa 15 (.lenS (Tm 14)),Oa 16 (.bin .lss (Tm 13) (Tm 15))]) (.cond (Tm 16) (.skip) (.exit 0))) (.seq (.block 1 (.seq (.region [Om 19 0,Om 20 6,Oa 21 (.istr (Tm 19) (Tm 20)),Om 7 21]) (.seq (.region [Om 22 5,Om 23 7,Oa 24 (.bin .or (Tm 22) (Tm 23)),Om 5 24]) (.seq (.region [Om 25 7,Oa 26 (.iaadr 256 1 (.cst (.p (.cptr asciiCells))) (Tm 25)),Oq 27 1 false 26,Oa 28 (.conv (.toInt .i64) (Tm 27)),Om 8 28]) (.seq (.region [Om 29 3,Om 30 4,Om 31 8,Oa 32 (.un .xor (Tm 31)),Oa 33 (.bin .and (Tm 30) (Tm 32)),Oa 34 (.bin .add (Tm 29) (Tm 33)),Om 3 34]) (.region [Om 35 8,Om 4 35])))))) (.region [Om 17 6,Oa 18 (.bin .add (Tm 17) (Kz 1)),Om 6 18]))))
def lf24_B1 : LCode := .block 2 (.loop (.seq (.seq (.region [Om 42 12,Om 43 0,Oa 44 (.lenS (Tm 43)),Oa 45 (.bin .lss (Tm 42) (Tm 44)),Om 46 45,Oj 47 46 0,Oj 48 46 12,Oc 49 46 (.istr (Tm 47) (Tm 48)),Oc 50 46 (.iaadr 256 1 (.cst (.p (.cptr asciiCells))) (Tm 49)),Oc 51 46 (.load 1 false (Tm 50)),Oc 52 46 (.bin .neq (Tm 51) (.cst (.p (.int .u8 0)))),Ot 53 46 52]) (.cond (Tm 53) (.skip) (.exit 2))) (.block 3 (.region [Om 54 12,Oa 55 (.bin .add (Tm 54) (Kz 1)),Om 12 55]))))
def lf24_B2 : LCode := .block 6 (.loop (.seq (.seq (.region [Om 80 12,Om 81 0,Oa 82 (.lenS (Tm 81)),Oa 83 (.bin .lss (Tm 80) (Tm 82)),Om 84 83,Oj 85 84 0,Oj 86 84 12,Oc 87 84 (.istr (Tm 85) (Tm 86)),Oc 88 84 (.iaadr 256 1 (.cst (.p (.cptr asciiCells))) (Tm 87)),Oc 89 84 (.load 1 false (Tm 88)),Oc 90 84 (.bin .neq (Tm 89) (.cst (.p (.int .u8 0)))),Ot 91 84 90]) (.cond (Tm 91) (.skip) (.exit 6))) (.block 7 (.region [Om 92 12,Oa 93 (.bin .add (Tm 92) (Kz 1)),Om 12 93]))))
def lf24_B3 : LCode := .block 4 (.loop (.seq (.seq (.region [Om 57 12,Om 58 0,Oa 59 (.lenS (Tm 58)),Oa 60 (.bin .lss (Tm 57) (Tm 59))]) (.cond (Tm 60) (.skip) (.exit 4))) (.block 5 (.seq (.seq (.region [Om 61 0,Om 62 12,Oa 63 (.istr (Tm 61) (Tm 62)),Oa 64 (.iaadr 256 1 (.cst (.p (.cptr asciiCells))) (Tm 63)),Oq 65 1 false 64,Oa 66 (.bin .eql (Tm 65) (.cst (.p (.int .u8 0))))]) (.cond (Tm 66) (.seq (.region [Om 67 12,Oa 68 (.bin .add (Tm 67) (Kz 1)),Om 12 68]) (.exit 5)) (.skip))) (.seq (.region [Om 69 9,Om 70 10,Om 71 0,Om 72 11,Om 73 12,Oa 74 (.slStr (Tm 71) (some (Tm 72)) (some (Tm 73))),Oa 75 (.iadr 1 (Tm 69) (Tm 70)),Oy 1 75 74]) (.seq (.region [Om 76 10,Oa 77 (.bin .add (Tm 76) (Kz 1)),Om 10 77]) (.seq (.region [Om 78 12,Oa 79 (.bin .add (Tm 78) (Kz 1)),Om 12 79]) (.seq (lf24_B2) (.region [Om 94 12,Om 11 94])))))))))
def lf24 : LFunc := ⟨106,[.slot 2], .seq (.region [Oa 2 (.mov (.cst (.tight [])))]) (.seq (.region [Oa 3 (.mov (Kz 0))]) (.seq (.region [Oa 4 (.mov (Kz 1))]) (.seq (.region [Oa 5 (.mov (.cst (.p (.int .u8 0))))]) (.seq (.seq (.region [Oa 6 (.mov (Kz 0))]) (lf24_B0)) (.seq (.seq (.region [Om 36 5,Oa 37 (.bin .geq (Tm 36) (.cst (.p (.int .u8 128))))]) (.cond (Tm 37) (.seq (.region [Om 38 0,Oa 39 (.call 46 [Tm 38,.cst (.p (.clo 47 []))]),Om 2 39]) (.ret)) (.skip))) (.seq (.region [Om 40 3,Oa 41 (.mksl 1 16 9 (.p (.str [])) (Tm 40) (Tm 40)),Om 9 41]) (.seq (.region [Oa 10 (.mov (Kz 0))]) (.seq (.region [Oa 11 (.mov (Kz 0))]) (.seq (.region [Oa 12 (.mov (Kz 0))]) (.seq (lf24_B1) (.seq (.region [Om 56 12,Om 11 56]) (.seq (lf24_B3) (.seq (.seq (.region [Om 95 11,Om 96 0,Oa 97 (.lenS (Tm 96)),Oa 98 (.bin .lss (Tm 95) (Tm 97))]) (.cond (Tm 98) (.region [Om 99 9,Om 100 10,Om 101 0,Om 102 11,Oa 103 (.slStr (Tm 101) (some (Tm 102)) none),Oa 104 (.iadr 1 (Tm 99) (Tm 100)),Oy 1 104 103]) (.skip))) (.seq (.region [Om 105 9,Om 2 105]) (.ret)))))))))))))))⟩
theorem low24 : lowFunc Tryz.prog gl1 24 = some lf24 := by kernel_rfl
def resText : List UInt8 := [116, 114, 117, 101, 32, 102, 97, 108, 115, 101, 32, 110, 111, 116, 32, 97, 110, 100, 32, 111, 114, 32, 61, 62, 32, 120, 111, 114, 32, 61, 32, 100, 105, 115, 116, 105, 110, 99, 116, 32, 105, 116, 101, 32, 108, 101, 116, 32, 43, 32, 45, 32, 42, 32, 47, 32, 60, 61, 32, 60, 32, 62, 61, 32, 62, 32, 66, 111, 111, 108, 32, 82, 101, 97, 108, 32, 95, 32, 33, 32, 97, 115, 32, 101, 120, 105, 115, 116, 115, 32, 102, 111, 114, 97, 108, 108, 32, 112, 97, 114]
def sFields : List PVal → Option PVal
 | [.str s] => if s = resText then some (.lst (resWords.map .str)) else none
 | _ => none
theorem fields_run : runP Tab.none 1000 lf24 [.str resText] = some (.lst (resWords.map .str)) := by kernel_rfl
end Go.Proofs.YtcbagnlidecmkaaGreatDoor

/-
 lex: Reserved, of both.
-/
namespace Go.Proofs.YtcbagnlidecmkaaGreatDoor
open Go Go.Abs Go.Lex
set_option maxRecDepth 20000
attribute [local simp] pureS touchV freezeL fuel shiftV
def base1 : Prot := fun b o => if b = 0 ∧ o < 256 then some (.int .u8 (spaceCell o)) else none
theorem glob1 : GlobOk base1 gl1 := by
 intro g c h
 unfold gl1
 split
 case isFalse => exact .junk _
 rename_i e
 subst e
 have hl : asciiCells.length = 256 := by simp [asciiCells]
 refine .p _ _ (.cptr asciiCells 0 0 (fun j => .int .u8 (spaceCell j)) (fun j hj => ?_) (fun j x hx => ?_) (fun x hx => ?_))
 ·exact h _ _ _ (by rw [hl] at hj; simp [base1, hj])
 ·simp only [asciiCells, List.getElem?_map] at hx
  obtain ⟨y, hy, rfl⟩ := Option.map_eq_some_iff.1 hx
  have : y = j := by
   have := List.getElem?_eq_some_iff.1 hy
   obtain ⟨h1, h2⟩ := this
   simpa using h2.symm
  subst this
  exact .int _ _
 ·simp only [asciiCells, List.mem_map] at hx
  obtain ⟨y, _, rfl⟩ := hx
  rfl
theorem fields_ok : FnOk Tryz.prog base1 24 (pureS sFields) := by
 refine pure_of_run hmix Tab.none_ok glob1 low24 1000 fun args x hs => ?_
 unfold sFields at hs
 split at hs
 case h_2 => cases hs
 split at hs
 case isFalse => cases hs
 rename_i e
 subst e
 cases hs
 exact fields_run
def decS : List PVal → Option (List (List UInt8))
 | [] => some []
 | .str s :: r => match decS r with | some l => some (s :: l) | none => none
 | _ :: _ => none
theorem decS_map : ∀ l : List (List UInt8), decS (l.map .str) = some l
 | [] => rfl
 | s :: l => by simp [decS, decS_map l]
theorem decS_some : ∀ {l : List PVal} {ws : List (List UInt8)}, decS l = some ws → l = ws.map .str
 | [], ws, h => by simp [decS] at h; subst h; rfl
 | x :: r, ws, h => by
  unfold decS at h
  split at h
  ·rename_i e; cases e
  ·rename_i s r' e
   cases e
   cases hd : decS r with
   | none => rw [hd] at h; cases h
   | some l =>
    rw [hd] at h
    cases h
    rw [decS_some hd]
    rfl
  ·cases h
def idxFrom : List (List UInt8) → List UInt8 → Nat → Int
 | [], _, _ => -1
 | w :: r, s, i => if s = w then i else idxFrom r s (i + 1)
theorem idxFrom_cons (w : List UInt8) (r : List (List UInt8)) (s : List UInt8) (i : Nat) : idxFrom (w :: r) s i = if s = w then (i : Int) else idxFrom r s (i + 1) := rfl
theorem idxFrom_ge0 : ∀ (ws : List (List UInt8)) (s : List UInt8) (i : Nat), decide (0 ≤ idxFrom ws s i) = ws.contains s
 | [], _, _ => by simp [idxFrom]
 | w :: r, s, i => by
  unfold idxFrom
  split
  ·rename_i h; subst h; simp
  ·rename_i h
   rw [idxFrom_ge0 r s (i + 1), List.contains_cons]
   have : (s == w) = false := by simpa using h
   rw [this, Bool.false_or]
variable {base : Prot}
def sIndex : List PVal → Option PVal
 | [.lst es, .str s] => match decS es with | some ws => some (.int .i64 (idxFrom ws s 0)) | none => none
 | _ => none
theorem index_ok : FnOk Tryz.prog base 23 (pureS sIndex) := by
 refine pure_of_vc hmix Tab.none_ok globNone low23 fun args x hs hf => ?_
 unfold sIndex at hs
 split at hs
 case h_2 => cases hs
 rename_i es s
 cases hd : decS es with
 | none => rw [hd] at hs; cases hs
 | some ws =>
  rw [hd] at hs
  cases hs
  have := decS_some hd
  subst this
  have hlen := (hf (.lst (ws.map .str)) (by simp)).lst.1
  unfold maxLen at hlen
  simp only [List.length_map] at hlen
  refine ⟨by simp [lf23], ?_⟩
  simp [lf23]
  simp only [lf23_B0, vc_block]
  refine loop_ind (fun fr H => ∃ i : Nat, H = [] ∧ i ≤ ws.length ∧ fr 0 = .p (.lst (ws.map .str)) ∧ fr 1 = .p (.str s) ∧ fr 7 = .p (.int .i64 ws.length) ∧ fr 8 = .p (.int .i64 i) ∧ idxFrom (ws.drop i) s i = idxFrom ws s 0) (fun fr _ => ws.length - ivar (fr 8)) ⟨0, rfl, by omega, by simp, by simp, by simp, by simp, by simp⟩ ?_
  rintro fr H ⟨i, rfl, hi, h0, h1, h7, h8, hj⟩
  by_cases h : i < ws.length
  ·have hd : ws.drop i = ws[i] :: ws.drop (i + 1) := List.drop_eq_getElem_cons h
   rw [hd, idxFrom_cons] at hj
   by_cases e : s = ws[i]
   ·rw [if_pos e] at hj
    have hb : (s == ws[i]) = true := by simpa using e
    simp [h0, h1, h7, h8, h, binS, hb, ← hj]
   ·rw [if_neg e] at hj
    have hb : (s == ws[i]) = false := by simpa using e
    simp [h0, h1, h7, h8, h, binS, hb, wrap_succ (i := i) (by omega), ivar]
    exact ⟨⟨i + 1, by omega, by simp, hj⟩, by omega⟩
  ·have : i = ws.length := by omega
   subst this
   simp [idxFrom] at hj
   simp [h7, h8, ← hj]
def sContains : List PVal → Option PVal
 | [.lst es, .str s] => match decS es with | some ws => some (.bool (ws.contains s)) | none => none
 | _ => none
def Tg : Tab := Tab.none.with 23 (pureS sIndex)
theorem Tg_ok : TabOk Tryz.prog base Tg := Tab.with_ok Tab.none_ok index_ok
theorem Tg_mu (f : FuncId) (a : List AVal) (H : Heap) : Tg.mu f a H = none := (rfl)
theorem Tg_45 : Tg.fn 23 = pureS sIndex := (rfl)
attribute [local simp] Tg_mu Tg_45
theorem contains_ok : FnOk Tryz.prog base 86 (pureS sContains) := by
 refine pure_of_vc hmix Tg_ok globNone low86 fun args x hs hf => ?_
 unfold sContains at hs
 split at hs
 case h_2 => cases hs
 rename_i es s
 cases hd : decS es with
 | none => rw [hd] at hs; cases hs
 | some ws =>
  rw [hd] at hs
  cases hs
  have := decS_some hd
  subst this
  refine ⟨by simp [lf86], ?_⟩
  simp [lf86, sIndex, decS_map, idxFrom_ge0]
def sRes : List PVal → Option PVal
 | [.str s] => some (.bool (isRes s))
 | _ => none
def Th : Tab := (Tab.none.with 86 (pureS sContains)).with 24 (pureS sFields)
theorem Th_ok : TabOk Tryz.prog base1 Th := Tab.with_ok (Tab.with_ok Tab.none_ok contains_ok) fields_ok
theorem Th_mu (f : FuncId) (a : List AVal) (H : Heap) : Th.mu f a H = none := (rfl)
theorem Th_37 : Th.fn 86 = pureS sContains := (rfl)
theorem Th_38 : Th.fn 24 = pureS sFields := (rfl)
attribute [local simp] Th_mu Th_37 Th_38
theorem fields_at : pureS sFields [.str resText] = some (.p (.lst (resWords.map .str)), []) := by simp [sFields]
theorem contains_at (s : List UInt8) : pureS sContains [.lst (resWords.map .str), .str s] = some (.p (.bool (isRes s)), []) := by simp only [pureS, sContains, decS_map]; rfl
theorem res_ok : FnOk Tryz.prog base1 72 (pureS sRes) := by
 refine pure_of_vc hmix Th_ok globNone low72 fun args x hs hf => ?_
 unfold sRes at hs
 split at hs
 case h_2 => cases hs
 rename_i s
 cases hs
 refine ⟨by simp [lf72], ?_⟩
 have h1 := fields_at
 have h2 := contains_at s
 unfold resText at h1
 generalize resWords.map PVal.str = ws at h1 h2
 simp [lf72, -pureS, h1, h2]
theorem rres_ok : FnOk Tryz.prog base 60 (pureS sRes) := by
 refine pure_of_vc hmix Tab.none_ok globNone low60 fun args x hs hf => ?_
 unfold sRes at hs
 split at hs
 case h_2 => cases hs
 rename_i s
 cases hs
 refine ⟨by simp [lf60], ?_⟩
 have hl : resWords.length = 27 := rfl
 simp [lf60, fillS]
 simp only [lf60_B0, vc_block]
 refine loop_ind (fun fr H => ∃ i : Nat, H = [⟨1, 0, false, (resWords.map .str).map .p, 9⟩] ∧ i ≤ 27 ∧ fr 0 = .p (.str s) ∧ fr 3 = .own 0 0 27 0 ∧ fr 4 = .p (.int .i64 i) ∧ (resWords.take i).contains s = false) (fun fr _ => 27 - ivar (fr 4)) ⟨0, by simp [resWords], by omega, by simp, by simp, by simp, by simp⟩ ?_
 rintro fr H ⟨i, rfl, hi, h0, h3, h4, hj⟩
 by_cases h : (i : Int) < 27
 ·have hs : resWords[i]? = some (resWords[i]'(by omega)) := List.getElem?_eq_getElem _
  generalize resWords[i]'(by omega) = c at hs
  by_cases e : c = s
  ·subst e
   have hm : isRes c = true := by simpa [isRes] using List.mem_of_getElem? hs
   simp [h0, h3, h4, h, hs, binS, hm]
  ·have hb : (c == s) = false := by simpa using e
   have hj' : (resWords.take (i + 1)).contains s = false := by
    rw [List.take_add_one, hs]
    have : (s == c) = false := by simpa using Ne.symm e
    simp at hj
    simp [hj, Ne.symm e]
   simp [h0, h3, h4, h, hs, binS, hb, wrap_succ (i := i) (by omega), ivar, hj', -List.contains_eq_mem]
   exact ⟨⟨i + 1, by omega, by simp, hj'⟩, by omega⟩
 ·have : i = 27 := by omega
  subst this
  have hm : isRes s = false := by rw [← hj]; rfl
  simp [h3, h4, hm]
end Go.Proofs.YtcbagnlidecmkaaGreatDoor
