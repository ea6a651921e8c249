/-
  ScriptForms answers true on all values. No conditions.
-/
import Derived.Test.YtcbagnlidecmkaaGreatDoorScriptF
import Derived.Test.YtcbagnlidecmkaaGreatDoorLexC
set_option linter.unusedSimpArgs false
set_option linter.unnecessarySimpa false
set_option linter.unusedVariables false
set_option linter.constructorNameAsVariable false

/-
 law13: ScriptForms.
-/
namespace Go.Proofs.YtcbagnlidecmkaaGreatDoor
open Go Go.Abs Go.Lex Go.Sexp
set_option maxRecDepth 20000
attribute [local irreducible] vc
attribute [local simp] pureS touchV freezeL fuel shiftV
variable {base : Prot} {m : Int}
def formL : List (List UInt8) := [[40, 115, 101, 116, 45, 108, 111, 103, 105, 99, 32, 81, 70, 95, 85, 70, 76, 82, 65, 41], [40, 115, 101, 116, 45, 111, 112, 116, 105, 111, 110, 32, 58, 97, 32, 98, 41], [40, 115, 101, 116, 45, 105, 110, 102, 111, 32, 58, 97, 41], [40, 100, 101, 99, 108, 97, 114, 101, 45, 115, 111, 114, 116, 32, 85, 32, 48, 41], [40, 100, 101, 99, 108, 97, 114, 101, 45, 102, 117, 110, 32, 102, 32, 40, 41, 32, 82, 101, 97, 108, 41], [40, 100, 101, 99, 108, 97, 114, 101, 45, 99, 111, 110, 115, 116, 32, 120, 32, 85, 41], [40, 100, 101, 102, 105, 110, 101, 45, 102, 117, 110, 32, 102, 32, 40, 40, 120, 32, 82, 101, 97, 108, 41, 41, 32, 66, 111, 111, 108, 32, 40, 61, 32, 120, 32, 49, 41, 41], [40, 97, 115, 115, 101, 114, 116, 32, 116, 114, 117, 101, 41], [40, 112, 117, 115, 104, 32, 50, 41], [40, 112, 111, 112, 41], [40, 99, 104, 101, 99, 107, 45, 115, 97, 116, 41], [40, 103, 101, 116, 45, 109, 111, 100, 101, 108, 41], [40, 103, 101, 116, 45, 118, 97, 108, 117, 101, 32, 40, 120, 41, 41], [40, 101, 99, 104, 111, 32, 34, 97, 34, 41], [40, 114, 101, 115, 101, 116, 41], [40, 101, 120, 105, 116, 41]]
def kindL : List Nat := [1, 2, 3, 4, 5, 5, 6, 7, 8, 9, 10, 11, 12, 13, 14, 15]
def spoil (h : Nat) (s : List UInt8) : List UInt8 := if h = 1 then s.take (s.length - 1) ++ [32, 122, 32, 40, 121, 41, 32, 119, 41] else if h = 2 then [40] ++ s ++ [41] else [40, 110, 111] ++ s.drop 1
theorem forms_good : ∀ i, i < 16 → (oneO (formL.getD i [])).map Cmd.kind = some (kindL.getD i 0) ∧ (formL.getD i []).length ≤ 60 ∧ 2 ≤ (formL.getD i []).length := by decide +kernel
theorem forms_bad : ∀ i, i < 16 → ∀ h, h < 3 → badO (spoil (h + 1) (formL.getD i [])) = true := by decide +kernel
noncomputable def Tsf : Tab := ((Tab.none.with 12 (pureS sOne)).with 8 (pureS sAwake)).with 15 (pureS sRound)
theorem Tsf_ok : TabOk Tryz.prog (base3 m) Tsf := Tab.with_ok (Tab.with_ok (Tab.with_ok Tab.none_ok one_ok) awake13_ok) round_ok
theorem Tsf_mu (f : FuncId) (a : List AVal) (H : Heap) : Tsf.mu f a H = none := (rfl)
theorem Tsf_1 : Tsf.fn 12 = pureS sOne := (rfl)
theorem Tsf_2 : Tsf.fn 8 = pureS sAwake := (rfl)
theorem Tsf_3 : Tsf.fn 15 = pureS sRound := (rfl)
attribute [local simp] Tsf_mu Tsf_1 Tsf_2 Tsf_3
theorem aw_is : sAwake [] = some (.bool true) := rfl
def sForms : List PVal → Option PVal
 | [.int .i64 _, .int .i64 _] => some (.bool true)
 | _ => none
def formA : List AVal := formL.map fun s => .p (.str s)
def kindA : List AVal := kindL.map fun k => .p (.int .i64 (k : Nat))
theorem formA_len : formA.length = 16 := rfl
theorem kindA_len : kindA.length = 16 := rfl
theorem formA_get {i : Nat} (h : i < 16) : formA[i]? = some (.p (.str (formL.getD i []))) := by
 unfold formA
 rw [List.getElem?_map, List.getD_eq_getElem?_getD, List.getElem?_eq_getElem (show i < formL.length from h)]; rfl
theorem kindA_get {i : Nat} (h : i < 16) : kindA[i]? = some (.p (.int .i64 (kindL.getD i 0 : Nat))) := by
 unfold kindA
 rw [List.getElem?_map, List.getD_eq_getElem?_getD, List.getElem?_eq_getElem (show i < kindL.length from h)]; rfl
theorem forms_all {i : Nat} (h : i < 16) : ∃ (s : List UInt8) (kd : Nat), formA[i]? = some (.p (.str s)) ∧ kindA[i]? = some (.p (.int .i64 kd)) ∧ (oneO s).map Cmd.kind = some kd ∧ s.length ≤ 60 ∧ 2 ≤ s.length ∧ ∀ h, h < 3 → badO (spoil (h + 1) s) = true := by
 obtain ⟨g1, g2, g3⟩ := forms_good i h
 exact ⟨_, _, formA_get h, kindA_get h, g1, g2, g3, forms_bad i h⟩
theorem ev_form {T : Tab} {fr : AFr} {H : Heap} : evalOp T (.buildSl 1 9 (.p (.str [])) 16 [(0,(.cst (.p (.str [40,115,101,116,45,108,111,103,105,99,32,81,70,95,85,70,76,82,65,41])))),(1,(.cst (.p (.str [40,115,101,116,45,111,112,116,105,111,110,32,58,97,32,98,41])))),(2,(.cst (.p (.str [40,115,101,116,45,105,110,102,111,32,58,97,41])))),(3,(.cst (.p (.str [40,100,101,99,108,97,114,101,45,115,111,114,116,32,85,32,48,41])))),(4,(.cst (.p (.str [40,100,101,99,108,97,114,101,45,102,117,110,32,102,32,40,41,32,82,101,97,108,41])))),(5,(.cst (.p (.str [40,100,101,99,108,97,114,101,45,99,111,110,115,116,32,120,32,85,41])))),(6,(.cst (.p (.str [40,100,101,102,105,110,101,45,102,117,110,32,102,32,40,40,120,32,82,101,97,108,41,41,32,66,111,111,108,32,40,61,32,120,32,49,41,41])))),(7,(.cst (.p (.str [40,97,115,115,101,114,116,32,116,114,117,101,41])))),(8,(.cst (.p (.str [40,112,117,115,104,32,50,41])))),(9,(.cst (.p (.str [40,112,111,112,41])))),(10,(.cst (.p (.str [40,99,104,101,99,107,45,115,97,116,41])))),(11,(.cst (.p (.str [40,103,101,116,45,109,111,100,101,108,41])))),(12,(.cst (.p (.str [40,103,101,116,45,118,97,108,117,101,32,40,120,41,41])))),(13,(.cst (.p (.str [40,101,99,104,111,32,34,97,34,41])))),(14,(.cst (.p (.str [40,114,101,115,101,116,41])))),(15,(.cst (.p (.str [40,101,120,105,116,41]))))]) fr H = some (.own H.length 0 16 0, H ++ [⟨1, 0, false, formA, 9⟩]) := by kernel_rfl
theorem ev_kind {T : Tab} {fr : AFr} {H : Heap} : evalOp T (.buildSl 1 3 (.p (.int .i64 0)) 16 [(0,(.cst (.p (.int .i64 1)))),(1,(.cst (.p (.int .i64 2)))),(2,(.cst (.p (.int .i64 3)))),(3,(.cst (.p (.int .i64 4)))),(4,(.cst (.p (.int .i64 5)))),(5,(.cst (.p (.int .i64 5)))),(6,(.cst (.p (.int .i64 6)))),(7,(.cst (.p (.int .i64 7)))),(8,(.cst (.p (.int .i64 8)))),(9,(.cst (.p (.int .i64 9)))),(10,(.cst (.p (.int .i64 10)))),(11,(.cst (.p (.int .i64 11)))),(12,(.cst (.p (.int .i64 12)))),(13,(.cst (.p (.int .i64 13)))),(14,(.cst (.p (.int .i64 14)))),(15,(.cst (.p (.int .i64 15))))]) fr H = some (.own H.length 0 16 0, H ++ [⟨1, 0, false, kindA, 3⟩]) := by kernel_rfl
set_option maxHeartbeats 4000000 in
theorem forms_ok : FnOk Tryz.prog (base3 m) 4 (pureS sForms) := by
 refine pure_of_vc hmix Tsf_ok globNone low4 fun args x hs hf => ?_
 unfold sForms at hs
 split at hs
 case h_2 => cases hs
 rename_i k how
 cases hs
 refine ⟨by simp [lf4], ?_⟩
 have r1 : sRound [.int .i64 k, .int .i64 16] = some (.int .i64 (k % 16)) := by simp [sRound]
 have r2 : sRound [.int .i64 how, .int .i64 4] = some (.int .i64 (how % 4)) := by simp [sRound]
 obtain ⟨i, hi, hi16⟩ : ∃ i : Nat, k % 16 = i ∧ i < 16 := ⟨(k % 16).toNat, by omega, by omega⟩
 obtain ⟨h, hh, hh4⟩ : ∃ h : Nat, how % 4 = h ∧ h < 4 := ⟨(how % 4).toNat, by omega, by omega⟩
 rw [hi] at r1
 rw [hh] at r2
 obtain ⟨s, kd, gl, gk, g1, g2, g3, gb⟩ := forms_all hi16
 have lb : ((i : Int) < 16) = True := by simp; omega
 rcases (show h = 0 ∨ h = 1 ∨ h = 2 ∨ h = 3 by omega) with rfl | rfl | rfl | rfl
 ·obtain ⟨c, h1, h2⟩ := Option.map_eq_some_iff.1 g1
  obtain ⟨ho, _⟩ := one_good (by omega) h1
  obtain ⟨tb, tk, ts, ta, tvs, ten⟩ := encT_shape c.term
  have hec := encC_at ten
  rw [h2] at hec
  rw [hec] at ho
  simp [lf4, ↓ev_form, ↓ev_kind, r1, r2, formA_len, kindA_len, lb, gl, gk, ho, aw_is]
 ·have ho := one_bad (s := spoil 1 s) (by simp [spoil]; omega) (gb 0 (by decide))
  have w1 : IntKind.i64.wrap ((s.length : Int) - 1) = ((s.length - 1 : Nat) : Int) := by rw [IntWalk.i64_in _ (by omega)]; omega
  have w2 : s.length - 1 ≤ s.length := by omega
  have w3 : s.length - 1 + 9 ≤ 9223372036854775807 := by omega
  rw [enc0] at ho
  simp [spoil] at ho
  simp [lf4, ↓ev_form, ↓ev_kind, r1, r2, formA_len, kindA_len, lb, gl, gk, ho, aw_is, w1, w2, w3, binS, maxLen]
 ·have ho := one_bad (s := spoil 2 s) (by simp [spoil]; omega) (gb 1 (by decide))
  have w3 : s.length + 1 ≤ 9223372036854775807 := by omega
  have w4 : 1 + s.length ≤ 9223372036854775807 := by omega
  have w5 : s.length + 1 + 1 ≤ 9223372036854775807 := by omega
  rw [enc0] at ho
  simp [spoil] at ho
  simp [lf4, ↓ev_form, ↓ev_kind, r1, r2, formA_len, kindA_len, lb, gl, gk, ho, aw_is, w3, w4, w5, binS, maxLen]
 ·have ho := one_bad (s := spoil 3 s) (by simp [spoil]; omega) (gb 2 (by decide))
  have w3 : 3 + (s.length - 1) ≤ 9223372036854775807 := by omega
  rw [enc0] at ho
  simp [spoil] at ho
  have w1 : (1 : Int) ≤ s.length := by omega
  simp [lf4, ↓ev_form, ↓ev_kind, r1, r2, formA_len, kindA_len, lb, gl, gk, ho, aw_is, w1, w3, binS, maxLen]
end Go.Proofs.YtcbagnlidecmkaaGreatDoor
