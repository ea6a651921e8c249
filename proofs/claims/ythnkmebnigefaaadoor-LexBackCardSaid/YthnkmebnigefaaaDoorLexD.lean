/-
  What Reserved of both, strings.Builder's methods and the reader's while compute. No conditions.
-/
import Derived.Test.YthnkmebnigefaaaDoorLexC
import Derived.Test.YthnkmebnigefaaaDoorLexB
import Derived.Lib.Builder
import Derived.Lib.UnsafeStr
import Derived.RegionTactic
import Derived.WalkKit
import Derived.Test.YthnkmebnigefaaaDoorAbsThree
set_option linter.unusedSimpArgs false
set_option linter.unusedVariables false
set_option linter.constructorNameAsVariable false

/-
  lex: Reserved, of both.
-/
namespace Go.Proofs.YthnkmebnigefaaaDoor
open Go Go.Abs
set_option maxRecDepth 20000
attribute [local simp] pureS touchV freezeL fuel shiftV

/-- The table of blanks does not change. -/
def base1 : Prot := fun b o => if b = 0 ∧ o < 256 then some (.int .u8 (spaceCell o)) else none

theorem glob1 : GlobOk base1 gl1 := by
  intro g c h
  unfold gl1
  split
  case isFalse => exact .junk _
  rename_i e
  subst e
  have hl : asciiCells.length = 256 := by simp [asciiCells]
  refine .p _ _ (.cptr asciiCells 0 0 (fun j => .int .u8 (spaceCell j)) (fun j hj => ?_) (fun j x hx => ?_) (fun x hx => ?_))
  · exact h _ _ _ (by rw [hl] at hj; simp [base1, hj])
  · simp only [asciiCells, List.getElem?_map] at hx
    obtain ⟨y, hy, rfl⟩ := Option.map_eq_some_iff.1 hx
    have : y = j := by
      have := List.getElem?_eq_some_iff.1 hy
      obtain ⟨h1, h2⟩ := this
      simpa using h2.symm
    subst this
    exact .int _ _
  · simp only [asciiCells, List.mem_map] at hx
    obtain ⟨y, _, rfl⟩ := hx
    rfl

theorem fields_ok : FnOk Tryd.prog base1 38 (pureS sFields) := by
  refine pure_of_run hmix Tab.none_ok glob1 low38 1000 fun args x hs => ?_
  unfold sFields at hs
  split at hs
  case h_2 => cases hs
  split at hs
  case isFalse => cases hs
  rename_i e
  subst e
  cases hs
  exact fields_run

/-- Texts out of values. -/
def decS : List PVal → Option (List (List UInt8))
  | [] => some []
  | .str s :: r => match decS r with | some l => some (s :: l) | none => none
  | _ :: _ => none

theorem decS_map : ∀ l : List (List UInt8), decS (l.map .str) = some l
  | [] => rfl
  | s :: l => by simp [decS, decS_map l]

theorem decS_some : ∀ {l : List PVal} {ws : List (List UInt8)}, decS l = some ws → l = ws.map .str
  | [], ws, h => by simp [decS] at h; subst h; rfl
  | x :: r, ws, h => by
    unfold decS at h
    split at h
    · rename_i e; cases e
    · rename_i s r' e
      cases e
      cases hd : decS r with
      | none => rw [hd] at h; cases h
      | some l =>
        rw [hd] at h
        cases h
        rw [decS_some hd]
        rfl
    · cases h

def idxFrom : List (List UInt8) → List UInt8 → Nat → Int
  | [], _, _ => -1
  | w :: r, s, i => if s = w then i else idxFrom r s (i + 1)

theorem idxFrom_cons (w : List UInt8) (r : List (List UInt8)) (s : List UInt8) (i : Nat) : idxFrom (w :: r) s i = if s = w then (i : Int) else idxFrom r s (i + 1) := rfl

theorem idxFrom_ge0 : ∀ (ws : List (List UInt8)) (s : List UInt8) (i : Nat), decide (0 ≤ idxFrom ws s i) = ws.contains s
  | [], _, _ => by simp [idxFrom]
  | w :: r, s, i => by
    unfold idxFrom
    split
    · rename_i h; subst h; simp
    · rename_i h
      rw [idxFrom_ge0 r s (i + 1), List.contains_cons]
      have : (s == w) = false := by simpa using h
      rw [this, Bool.false_or]

variable {base : Prot}

def sIndex : List PVal → Option PVal
  | [.lst es, .str s] => match decS es with | some ws => some (.int .i64 (idxFrom ws s 0)) | none => none
  | _ => none

theorem index_ok : FnOk Tryd.prog base 45 (pureS sIndex) := by
  refine pure_of_vc hmix Tab.none_ok globNone low45 fun args x hs hf => ?_
  unfold sIndex at hs
  split at hs
  case h_2 => cases hs
  rename_i es s
  cases hd : decS es with
  | none => rw [hd] at hs; cases hs
  | some ws =>
    rw [hd] at hs
    cases hs
    have := decS_some hd
    subst this
    have hlen := (hf (.lst (ws.map .str)) (by simp)).lst.1
    unfold maxLen at hlen
    simp only [List.length_map] at hlen
    refine ⟨by simp [lf45], ?_⟩
    simp [lf45]
    simp only [lf45_B0, vc_block]
    refine loop_ind (fun fr H => ∃ i : Nat, H = [] ∧ i ≤ ws.length ∧ fr 0 = .p (.lst (ws.map .str)) ∧ fr 1 = .p (.str s) ∧ fr 7 = .p (.int .i64 ws.length) ∧ fr 8 = .p (.int .i64 i) ∧ idxFrom (ws.drop i) s i = idxFrom ws s 0) (fun fr _ => ws.length - ivar (fr 8)) ⟨0, rfl, by omega, by simp, by simp, by simp, by simp, by simp⟩ ?_
    rintro fr H ⟨i, rfl, hi, h0, h1, h7, h8, hj⟩
    by_cases h : i < ws.length
    · have hd : ws.drop i = ws[i] :: ws.drop (i + 1) := List.drop_eq_getElem_cons h
      rw [hd, idxFrom_cons] at hj
      by_cases e : s = ws[i]
      · rw [if_pos e] at hj
        have hb : (s == ws[i]) = true := by simpa using e
        simp [h0, h1, h7, h8, h, binS, hb, ← hj]
      · rw [if_neg e] at hj
        have hb : (s == ws[i]) = false := by simpa using e
        simp [h0, h1, h7, h8, h, binS, hb, wrap_succ (i := i) (by omega), ivar]
        exact ⟨⟨i + 1, by omega, by simp, hj⟩, by omega⟩
    · have : i = ws.length := by omega
      subst this
      simp [idxFrom] at hj
      simp [h7, h8, ← hj]

def sContains : List PVal → Option PVal
  | [.lst es, .str s] => match decS es with | some ws => some (.bool (ws.contains s)) | none => none
  | _ => none

def Tg : Tab := Tab.none.with 45 (pureS sIndex)
theorem Tg_ok : TabOk Tryd.prog base Tg := Tab.with_ok Tab.none_ok index_ok
theorem Tg_mu (f : FuncId) (a : List AVal) (H : Heap) : Tg.mu f a H = none := (rfl)
theorem Tg_45 : Tg.fn 45 = pureS sIndex := (rfl)
attribute [local simp] Tg_mu Tg_45

theorem contains_ok : FnOk Tryd.prog base 37 (pureS sContains) := by
  refine pure_of_vc hmix Tg_ok globNone low37 fun args x hs hf => ?_
  unfold sContains at hs
  split at hs
  case h_2 => cases hs
  rename_i es s
  cases hd : decS es with
  | none => rw [hd] at hs; cases hs
  | some ws =>
    rw [hd] at hs
    cases hs
    have := decS_some hd
    subst this
    refine ⟨by simp [lf37], ?_⟩
    simp [lf37, sIndex, decS_map, idxFrom_ge0]

def isRes (s : List UInt8) : Bool := resWords.contains s

def sRes : List PVal → Option PVal
  | [.str s] => some (.bool (isRes s))
  | _ => none

def Th : Tab := (Tab.none.with 37 (pureS sContains)).with 38 (pureS sFields)
theorem Th_ok : TabOk Tryd.prog base1 Th := Tab.with_ok (Tab.with_ok Tab.none_ok contains_ok) fields_ok
theorem Th_mu (f : FuncId) (a : List AVal) (H : Heap) : Th.mu f a H = none := (rfl)
theorem Th_37 : Th.fn 37 = pureS sContains := (rfl)
theorem Th_38 : Th.fn 38 = pureS sFields := (rfl)
attribute [local simp] Th_mu Th_37 Th_38

theorem fields_at : pureS sFields [.str resText] = some (.p (.lst (resWords.map .str)), []) := by simp [sFields]
theorem contains_at (s : List UInt8) : pureS sContains [.lst (resWords.map .str), .str s] = some (.p (.bool (isRes s)), []) := by simp only [pureS, sContains, decS_map]; rfl

theorem res_ok : FnOk Tryd.prog base1 22 (pureS sRes) := by
  refine pure_of_vc hmix Th_ok globNone low22 fun args x hs hf => ?_
  unfold sRes at hs
  split at hs
  case h_2 => cases hs
  rename_i s
  cases hs
  refine ⟨by simp [lf22], ?_⟩
  have h1 := fields_at
  have h2 := contains_at s
  unfold resText at h1
  generalize resWords.map PVal.str = ws at h1 h2
  simp [lf22, -pureS, h1, h2]

theorem rres_ok : FnOk Tryd.prog base 24 (pureS sRes) := by
  refine pure_of_vc hmix Tab.none_ok globNone low24 fun args x hs hf => ?_
  unfold sRes at hs
  split at hs
  case h_2 => cases hs
  rename_i s
  cases hs
  refine ⟨by simp [lf24], ?_⟩
  have hl : resWords.length = 27 := rfl
  simp [lf24, fillS]
  simp only [lf24_B0, vc_block]
  refine loop_ind (fun fr H => ∃ i : Nat, H = [⟨1, 0, false, (resWords.map .str).map .p, 9⟩] ∧ i ≤ 27 ∧ fr 0 = .p (.str s) ∧ fr 3 = .own 0 0 27 0 ∧ fr 4 = .p (.int .i64 i) ∧ (resWords.take i).contains s = false) (fun fr _ => 27 - ivar (fr 4)) ⟨0, by simp [resWords], by omega, by simp, by simp, by simp, by simp⟩ ?_
  rintro fr H ⟨i, rfl, hi, h0, h3, h4, hj⟩
  by_cases h : (i : Int) < 27
  · have hs : resWords[i]? = some (resWords[i]'(by omega)) := List.getElem?_eq_getElem _
    generalize resWords[i]'(by omega) = c at hs
    by_cases e : c = s
    · subst e
      have hm : isRes c = true := by simpa [isRes] using List.mem_of_getElem? hs
      simp [h0, h3, h4, h, hs, binS, hm]
    · have hb : (c == s) = false := by simpa using e
      have hj' : (resWords.take (i + 1)).contains s = false := by
        rw [List.take_add_one, hs]
        have : (s == c) = false := by simpa using Ne.symm e
        simp at hj
        simp [hj, Ne.symm e]
      simp [h0, h3, h4, h, hs, binS, hb, wrap_succ (i := i) (by omega), ivar, hj', -List.contains_eq_mem]
      exact ⟨⟨i + 1, by omega, by simp, hj'⟩, by omega⟩
  · have : i = 27 := by omega
    subst this
    have hm : isRes s = false := by rw [← hj]; rfl
    simp [h3, h4, hm]

end Go.Proofs.YthnkmebnigefaaaDoor

/-
  strings.Builder: copyCheck and String, walked.
-/
namespace Go.Proofs.YthnkmebnigefaaaDoor
open Go Go.RowKit

theorem infoB : (Tryd.prog.info? 61).map (·.size) = some 2 := by kernel_rfl

theorem lies_own {P : Program} {t : TypeId} (hs : P.cellsOf t ≠ 0) (count : Nat) (h : 1 ≤ count) : liesAt P P.depth t count 0 t 1 = true := by
  have hd : P.depth = (2 * (P.types.size + Made.depth) + 1) + 1 := rfl
  rw [hd]
  simp only [liesAt, Bool.or_eq_true]
  left
  rw [hd]
  simp [rowAt, hs, h, sameLayout]

set_option maxRecDepth 100000 in
theorem cc_used (b : Nat) (w : World) (h0 : w.cell? ⟨b, 0, none⟩ = some (.pointer (some ⟨b, 0, none⟩))) :
    Calls Tryd.prog 49 #[.pointer (some ⟨b, 0, none⟩)] w fun e w' => e = .returned (.tuple #[]) ∧ w' = w := by
  obtain ⟨j, hj, _⟩ := Option.map_eq_some_iff.1 infoB
  go_enter Tryd.func49, Tryd.ntmps49
  go_wp2
  rw [Lib.run_neq_ptr_same w _ Tryd.underlying59 hj]
  go_wp2
  go_end0
  exact ⟨rfl, rfl⟩

set_option maxRecDepth 100000 in
theorem cc_fresh (b cells : Nat) (w : World) (h0 : w.cell? ⟨b, 0, none⟩ = some (.pointer none)) (hc : 2 ≤ cells) (hsh : w.shape? b = some (61, cells)) (hfz : w.frozen? ⟨b, 0, none⟩ = false) :
    Calls Tryd.prog 49 #[.pointer (some ⟨b, 0, none⟩)] w fun e w' => e = .returned (.tuple #[]) ∧ w' = w.setCell ⟨b, 0, none⟩ (.pointer (some ⟨b, 0, none⟩)) := by
  obtain ⟨j, hj, hjs⟩ := Option.map_eq_some_iff.1 infoB
  have hcs : Tryd.prog.cellsOf 61 = 2 := by kernel_rfl
  have hl : liesAt Tryd.prog Tryd.prog.depth 61 (cells / Tryd.prog.cellsOf 61) 0 61 1 = true := lies_own (by rw [hcs]; decide) _ (by rw [hcs]; omega)
  have h1 := Lib.run_to_unsafe w ⟨b, 0, none⟩ Tryd.underlying59 Tryd.underlying79 hj (by rw [hjs]; decide) hsh (by show 0 < cells; omega)
  have h2 := Lib.run_from_unsafe w ⟨b, 0, none⟩ Tryd.underlying79 Tryd.underlying59 hj hsh hl
  clear hsh hl hcs hc
  go_enter Tryd.func49, Tryd.ntmps49
  go_wp2
  rw [run_callFunc_extern Tryd.func51 (by kernel_rfl) (by kernel_rfl) (by kernel_rfl) (e := Extern.AbiNoEscape.same) (by kernel_rfl)]
  rw [Lib.run_noEscape]
  simp only [Result.andThen]
  rw [Oper.upon_value]
  go_wp2
  go_end0
  exact ⟨rfl, rfl⟩

set_option maxRecDepth 100000 in
set_option maxHeartbeats 2000000 in
theorem str_none (b : Nat) (w : World) (c1 : w.drew.cell? ⟨b, 1, none⟩ = some (.slice none 0 0)) :
    Calls Tryd.prog 42 #[.pointer (some ⟨b, 0, none⟩)] w fun e w' => e = .returned (.string ⟨#[]⟩) ∧ w' = w.drew := by
  have hUS : ∀ W q, (Builtin.unsafeString_ #[72, 3] 9 #[.pointer q, .int .i64 0]).run Tryd.prog W = .ok (.string .empty) W := fun W q => Lib.run_unsafeString_none W _ _ _ q
  have hSD : (Builtin.unsafeSliceData_ #[22] 72 #[.slice none 0 0]).run Tryd.prog w.drew = .ok (.pointer none) w.drew := rfl
  go_enter Tryd.func42, Tryd.ntmps42
  go_wp2
  go_region
  all_goals (go_wp2; go_ret; exact ⟨rfl, rfl⟩)

set_option maxRecDepth 100000 in
set_option maxHeartbeats 2000000 in
theorem str_noroom (b g cells : Nat) (w : World) (c1 : w.drew.cell? ⟨b, 1, none⟩ = some (.slice (some ⟨g, 0, none⟩) 0 0)) (hb : b < w.heap.size) (hsh : w.drew.shape? g = some (5, cells)) :
    Calls Tryd.prog 42 #[.pointer (some ⟨b, 0, none⟩)] w fun e w' => e = .returned (.string ⟨#[]⟩) ∧ w' = w.drew.alloc (.view ⟨g, 0, none⟩ 5) := by
  have hUS : ∀ W q, (Builtin.unsafeString_ #[72, 3] 9 #[.pointer q, .int .i64 0]).run Tryd.prog W = .ok (.string .empty) W := fun W q => Lib.run_unsafeString_none W _ _ _ q
  have hSD : (Builtin.unsafeSliceData_ #[22] 72 #[.slice (some ⟨g, 0, none⟩) 0 0]).run Tryd.prog w.drew = .ok (.pointer (some ⟨w.drew.heap.size, 0, none⟩)) (w.drew.alloc (.view ⟨g, 0, none⟩ 5)) :=
    Lib.run_unsafeSliceData_zero w.drew _ _ 5 Tryd.underlying72 ⟨g, 0, none⟩ 0 (5, cells) hsh
  have hold : (w.drew.alloc (.view ⟨g, 0, none⟩ 5)).heap[b]? = w.drew.heap[b]? := Lib.alloc_old w.drew _ b hb
  have c2 : (w.drew.alloc (.view ⟨g, 0, none⟩ 5)).cell? ⟨b, 1, none⟩ = some (.slice (some ⟨g, 0, none⟩) 0 0) := by
    rw [← c1]; exact World.cell?_of_block (a := ⟨b, 1, none⟩) hold
  have c3 : (w.alloc (.view ⟨g, 0, none⟩ 5)).drew.cell? ⟨b, 1, none⟩ = some (.slice (some ⟨g, 0, none⟩) 0 0) := c2
  have c0 : w.cell? ⟨b, 1, none⟩ = some (.slice (some ⟨g, 0, none⟩) 0 0) := c1
  clear hold hsh
  go_enter Tryd.func42, Tryd.ntmps42
  go_wp2
  go_region
  all_goals (go_wp2; go_ret; exact ⟨rfl, rfl⟩)

set_option maxRecDepth 100000 in
set_option maxHeartbeats 2000000 in
theorem str_room (b g cap : Nat) (w : World) (hc0 : cap ≠ 0) (c1 : w.drew.cell? ⟨b, 1, none⟩ = some (.slice (some ⟨g, 0, none⟩) 0 cap)) :
    Calls Tryd.prog 42 #[.pointer (some ⟨b, 0, none⟩)] w fun e w' => e = .returned (.string ⟨#[]⟩) ∧ w' = w.drew := by
  have hUS : ∀ W q, (Builtin.unsafeString_ #[72, 3] 9 #[.pointer q, .int .i64 0]).run Tryd.prog W = .ok (.string .empty) W := fun W q => Lib.run_unsafeString_none W _ _ _ q
  have hSD : (Builtin.unsafeSliceData_ #[22] 72 #[.slice (some ⟨g, 0, none⟩) 0 cap]).run Tryd.prog w.drew = .ok (.pointer (some ⟨g, 0, none⟩)) w.drew :=
    Lib.run_unsafeSliceData_row _ _ _ _ _ _ hc0
  clear hc0
  go_enter Tryd.func42, Tryd.ntmps42
  go_wp2
  go_region
  all_goals (go_wp2; go_ret; exact ⟨rfl, rfl⟩)

set_option maxRecDepth 100000 in
set_option maxHeartbeats 2000000 in
theorem str_some (b g cap cells : Nat) (l : List UInt8) (w : World) (h0 : l ≠ []) (hcap : l.length ≤ cap) (hcm : cap ≤ maxLen) (hcl : l.length ≤ cells) (hsh : w.drew.shape? g = some (5, cells))
    (hcell : ∀ j x, l[j]? = some x → w.drew.cell? ((⟨g, 0, none⟩ : Addr).add j) = some (.int .u8 x.toNat)) (c1 : w.drew.cell? ⟨b, 1, none⟩ = some (.slice (some ⟨g, 0, none⟩) l.length cap)) :
    Calls Tryd.prog 42 #[.pointer (some ⟨b, 0, none⟩)] w fun e w' => e = .returned (.string ⟨l.toArray⟩) ∧ w' = w.drew.freeze ⟨g, 0, none⟩ l.length := by
  have hl0 : l.length ≠ 0 := by simpa using h0
  have hSD : (Builtin.unsafeSliceData_ #[22] 72 #[.slice (some ⟨g, 0, none⟩) l.length cap]).run Tryd.prog w.drew = .ok (.pointer (some ⟨g, 0, none⟩)) w.drew :=
    Lib.run_unsafeSliceData_row _ _ _ _ _ _ (by omega)
  have hUS : (Builtin.unsafeString_ #[72, 3] 9 #[.pointer (some ⟨g, 0, none⟩), .int .i64 l.length]).run Tryd.prog w.drew = .ok (.string ⟨l.toArray⟩) (w.drew.freeze ⟨g, 0, none⟩ l.length) :=
    Lib.run_unsafeString_row w.drew 72 3 9 5 Tryd.underlying72 (by kernel_rfl) g cells hsh l h0 hcl (by unfold maxLen at hcm; omega) hcell
  clear hl0 hcell hsh hcl hcap hcm h0
  go_enter Tryd.func42, Tryd.ntmps42
  go_wp2
  go_region
  all_goals (go_wp2; go_ret; exact ⟨rfl, rfl⟩)
end Go.Proofs.YthnkmebnigefaaaDoor

/-
  strings.Builder: what its writing methods do.
-/
namespace Go.Proofs.YthnkmebnigefaaaDoor
open Go Go.Abs
variable {base : Prot}
set_option maxRecDepth 20000
attribute [local simp] pureS touchV freezeL fuel shiftV

theorem cc_ok : MuOk Tryd.prog base 49 (ccM 61) := cc_mu (by kernel_rfl) cc_used cc_fresh
theorem bstr_ok : MuOk Tryd.prog base 42 (strM 61 5) := str_mu (by kernel_rfl) str_none str_noroom str_room str_some

theorem ccM_some {tB : TypeId} {k : Nat} {H H1 : Heap} {r : AVal} (h : ccM tB [.optr k 0 0 0] H = some (r, H1)) :
    r = .p (.tup []) ∧ ∃ a buf, H[k]? = some (bldE tB a buf) ∧ H1 = H.set k (bldE tB (.optr k 0 0 0) buf) := by
  simp only [ccM] at h
  split at h
  case h_2 => cases h
  rename_i a buf t hk
  split at h
  case isFalse => cases h
  rename_i ht
  subst ht
  split at h
  · cases h
    exact ⟨rfl, _, buf, hk, rfl⟩
  · rename_i kk
    split at h
    case isFalse => cases h
    rename_i hkk
    cases h
    rw [hkk] at hk
    clear hkk
    refine ⟨rfl, _, buf, hk, ?_⟩
    apply List.ext_getElem?
    intro j
    by_cases hj : k = j
    · subst hj
      have := (List.getElem?_eq_some_iff.1 hk).1
      rw [List.getElem?_set_self this, hk]; rfl
    · simp [hj]
  · cases h

theorem appV_keep {size bytes : Nat} {ty : TypeId} {x x' : AVal} {ys : List AVal} {H H2 : Heap} {k : Nat} {e : Ent} (h : appV size bytes ty x ys H = some (x', H2)) (hk : H[k]? = some e) (hs : e.size ≠ size) : H2[k]? = some e := by
  have hkl := (List.getElem?_eq_some_iff.1 hk).1
  unfold appV at h
  split at h
  case isFalse => cases h
  split at h
  · rename_i j off len ver
    cases hj : H[j]? with
    | none => rw [hj] at h; cases h
    | some e2 =>
      rw [hj] at h
      simp only at h
      split at h
      case isFalse => cases h
      rename_i hc
      cases h
      have : k ≠ j := by
        rintro rfl
        rw [hk] at hj
        cases hj
        exact hs hc.2.1
      rw [List.getElem?_set_ne (Ne.symm this), hk]
  · split at h
    case isFalse => cases h
    cases h
    rw [List.getElem?_append_left hkl, hk]
  · cases h

/-- A write to a builder: its bytes, and the result. -/
def bwM (r : AVal) (k : Nat) (ys : List AVal) (H : Heap) : Option (AVal × Heap) := match ccM 61 [.optr k 0 0 0] H with
  | some (_, H1) => match H1[k]? with
    | some ⟨2, 0, false, [.agg [_, buf]], 61⟩ => match appV 1 1 5 buf ys H1 with
      | some (.own j o n v, H2) => some (r, H2.set k (bldE 61 (.optr k 0 0 0) (.own j o n v)))
      | _ => none
    | _ => none
  | none => none

theorem bwM_some {r r' : AVal} {k : Nat} {ys : List AVal} {H H' : Heap} (h : bwM r k ys H = some (r', H')) :
    r' = r ∧ ∃ a buf H1 j o n v H2, H[k]? = some (bldE 61 a buf) ∧ ccM 61 [.optr k 0 0 0] H = some (.p (.tup []), H1) ∧ H1 = H.set k (bldE 61 (.optr k 0 0 0) buf) ∧ appV 1 1 5 buf ys H1 = some (.own j o n v, H2) ∧ H' = H2.set k (bldE 61 (.optr k 0 0 0) (.own j o n v)) := by
  unfold bwM at h
  split at h
  case h_2 => cases h
  rename_i u H1 hcc
  obtain ⟨rfl, a, buf, hk, rfl⟩ := ccM_some hcc
  have hkl := (List.getElem?_eq_some_iff.1 hk).1
  rw [List.getElem?_set_self hkl] at h
  simp only [bldE] at h
  split at h
  case h_2 => cases h
  rename_i j o n v H2 happ
  cases h
  exact ⟨rfl, a, buf, _, j, o, n, v, H2, hk, hcc, rfl, happ, rfl⟩

def wsM : List AVal → Heap → Option (AVal × Heap)
  | [.optr k 0 0 0, .p (.str s)], H => bwM (.p (.tup [.int .i64 s.length, .nili])) k (s.map aB) H
  | _, _ => none

def Ti : Tab := Tab.none.own 49 (ccM 61)
theorem Ti_ok : TabOk Tryd.prog base Ti := Tab.own_ok Tab.none_ok cc_ok
theorem Ti_49 (a : List AVal) (H : Heap) : Ti.mu 49 a H = ccM 61 a H := (rfl)

theorem ws_ok : MuOk Tryd.prog base 40 wsM := by
  refine own_of_vc hmix Ti_ok globNone low40 fun args H r H' hs hf => ?_
  unfold wsM at hs
  split at hs
  case h_2 => cases hs
  rename_i k s
  obtain ⟨rfl, a, buf, H1, j, o, n, v, H2, hk, hcc, hH1, happ, rfl⟩ := bwM_some hs
  have hkl := (List.getElem?_eq_some_iff.1 hk).1
  have hk1 : H1[k]? = some (bldE 61 (.optr k 0 0 0) buf) := by rw [hH1, List.getElem?_set_self hkl]
  have hk2 : H2[k]? = some (bldE 61 (.optr k 0 0 0) buf) := appV_keep happ hk1 (by simp [bldE])
  clear hH1 hk hs hkl
  unfold aB at happ
  unfold bldE at hk1 hk2 ⊢
  refine ⟨by simp [lf40], ?_⟩
  simp [lf40, retQ, Ti_49, hcc, hk1, hk2, happ, -appV]

def wbM : List AVal → Heap → Option (AVal × Heap)
  | [.optr k 0 0 0, .p (.int .u8 c)], H => match ccM 61 [.optr k 0 0 0] H with
    | some (_, H1) => match H1[k]? with
      | some ⟨2, 0, false, [.agg [_, buf]], 61⟩ => match appV 1 1 5 buf [.p (.int .u8 c)] (H1 ++ [⟨1, 0, false, [.p (.int .u8 c)], 5⟩]) with
        | some (.own j o n v, H2) => some (.p .nili, H2.set k (bldE 61 (.optr k 0 0 0) (.own j o n v)))
        | _ => none
      | _ => none
    | none => none
  | _, _ => none

theorem wb_ok : MuOk Tryd.prog base 43 wbM := by
  refine own_of_vc hmix Ti_ok globNone low43 fun args H r H' hs hf => ?_
  unfold wbM at hs
  split at hs
  case h_2 => cases hs
  rename_i k c
  split at hs
  case h_2 => cases hs
  rename_i u H1 hcc
  obtain ⟨rfl, a, buf, hk, hH1⟩ := ccM_some hcc
  have hkl := (List.getElem?_eq_some_iff.1 hk).1
  have hk1 : H1[k]? = some (bldE 61 (.optr k 0 0 0) buf) := by rw [hH1, List.getElem?_set_self hkl]
  have hkl1 := (List.getElem?_eq_some_iff.1 hk1).1
  rw [hk1] at hs
  simp only [bldE] at hs
  split at hs
  case h_2 => cases hs
  rename_i j o n v H2 happ
  cases hs
  have hk1' : (H1 ++ [(⟨1, 0, false, [.p (.int .u8 c)], 5⟩ : Ent)])[k]? = some (bldE 61 (.optr k 0 0 0) buf) := by rw [List.getElem?_append_left hkl1, hk1]
  have hk2 : H2[k]? = some (bldE 61 (.optr k 0 0 0) buf) := appV_keep happ hk1' (by simp [bldE])
  clear hH1 hk hkl
  unfold bldE at hk1 hk1' hk2
  refine ⟨by simp [lf43], ?_⟩
  simp [lf43, retQ, Ti_49, hcc, hk1, hk1', hk2, happ, fillS, List.replicate, -appV]
end Go.Proofs.YthnkmebnigefaaaDoor

/-
  strings.Builder: what it holds.
-/
namespace Go.Proofs.YthnkmebnigefaaaDoor
open Go Go.Abs
variable {base : Prot}
set_option maxRecDepth 20000

/-- Array b is a builder that holds these bytes. -/
def IsBld (H : Heap) (b : Nat) (out : List UInt8) : Prop :=
  ∃ a buf, H[b]? = some (bldE 61 a buf) ∧ (a = .p .nilp ∨ a = .optr b 0 0 0) ∧ ((buf = .tight [] ∧ out = []) ∨ ∃ j ver, buf = .own j 0 out.length ver ∧ b < j ∧ H[j]? = some ⟨1, ver, false, out.map aB, 5⟩)

theorem IsBld.cc {H : Heap} {b : Nat} {out : List UInt8} (h : IsBld H b out) : ∃ buf, ccM 61 [.optr b 0 0 0] H = some (.p (.tup []), H.set b (bldE 61 (.optr b 0 0 0) buf)) ∧ b < H.length ∧
    ((buf = .tight [] ∧ out = []) ∨ ∃ j ver, buf = .own j 0 out.length ver ∧ b < j ∧ (H.set b (bldE 61 (.optr b 0 0 0) buf))[j]? = some ⟨1, ver, false, out.map aB, 5⟩) := by
  obtain ⟨a, buf, hb, ha, hbuf⟩ := h
  have hl := (List.getElem?_eq_some_iff.1 hb).1
  refine ⟨buf, ?_, hl, ?_⟩
  · rcases ha with rfl | rfl
    · exact ccM_fresh hb
    · rw [ccM_used hb]
      congr 2
      apply List.ext_getElem?
      intro q
      by_cases hq : b = q
      · subst hq; rw [List.getElem?_set_self hl, hb]
      · rw [List.getElem?_set_ne hq]
  · rcases hbuf with h | ⟨j, ver, h1, h2, h3⟩
    · exact .inl h
    · exact .inr ⟨j, ver, h1, h2, by rw [List.getElem?_set_ne (by omega)]; exact h3⟩

/-- The append to a builder's bytes. -/
theorem app_bld {H1 : Heap} {b : Nat} {out ys : List UInt8} {buf : AVal} (hl : b < H1.length) (hn : out.length + ys.length ≤ 1099511627776)
    (hbuf : (buf = .tight [] ∧ out = []) ∨ ∃ j ver, buf = .own j 0 out.length ver ∧ b < j ∧ H1[j]? = some ⟨1, ver, false, out.map aB, 5⟩) :
    ∃ j v H2, appV 1 1 5 buf (ys.map aB) H1 = some (.own j 0 (out ++ ys).length v, H2) ∧ b < j ∧ H2[j]? = some ⟨1, v, false, (out ++ ys).map aB, 5⟩ ∧ H1.length ≤ H2.length ∧ ∀ q, q ≤ b → H2[q]? = H1[q]? := by
  have hy : (ys.map aB).all (fun y => y.cells.length == 1 && y.cells.all AVal.isCell) = true := by
    rw [List.all_eq_true]
    intro x hx
    obtain ⟨y, _, rfl⟩ := List.mem_map.1 hx
    rfl
  have hm : maxLen = 9223372036854775807 := rfl
  rcases hbuf with ⟨rfl, rfl⟩ | ⟨j, ver, rfl, hbj, hj⟩
  · refine ⟨H1.length, 0, H1 ++ [⟨1, 0, false, ys.map aB, 5⟩], ?_, hl, ?_, ?_, ?_⟩
    · unfold appV
      rw [if_pos ⟨hy, by decide⟩]
      simp only
      rw [if_pos (by simp at hn ⊢; omega)]
      simp
    · simp
    · simp
    · intro q hq
      rw [List.getElem?_append_left (by omega)]
  · have hjl := (List.getElem?_eq_some_iff.1 hj).1
    refine ⟨j, ver + 1, H1.set j ⟨1, ver + 1, false, out.map aB ++ ys.map aB, 5⟩, ?_, hbj, ?_, ?_, ?_⟩
    · unfold appV
      rw [if_pos ⟨hy, by decide⟩]
      simp only
      rw [hj]
      simp only
      rw [if_pos (by simp at hn ⊢; omega)]
      simp
    · simp [hjl]
    · simp
    · intro q hq
      rw [List.getElem?_set_ne (by omega)]

theorem IsBld.put {H2 : Heap} {b : Nat} {out : List UInt8} {j v : Nat} (hb : b < H2.length) (hbj : b < j) (hj : H2[j]? = some ⟨1, v, false, out.map aB, 5⟩) : IsBld (H2.set b (bldE 61 (.optr b 0 0 0) (.own j 0 out.length v))) b out :=
  ⟨_, _, List.getElem?_set_self hb, .inr rfl, .inr ⟨j, v, rfl, hbj, by rw [List.getElem?_set_ne (by omega)]; exact hj⟩⟩

theorem ws_bld {H : Heap} {b : Nat} {out s : List UInt8} (h : IsBld H b out) (hn : out.length + s.length ≤ 1099511627776) :
    ∃ H', wsM [.optr b 0 0 0, .p (.str s)] H = some (.p (.tup [.int .i64 s.length, .nili]), H') ∧ IsBld H' b (out ++ s) ∧ (∀ q, q < b → H'[q]? = H[q]?) ∧ H.length ≤ H'.length := by
  obtain ⟨buf, hcc, hl, hbuf⟩ := h.cc
  obtain ⟨j, v, H2, h1, h2, h3, h4, h5⟩ := app_bld (ys := s) (by simpa using hl) hn hbuf
  refine ⟨H2.set b (bldE 61 (.optr b 0 0 0) (.own j 0 (out ++ s).length v)), ?_, .put (by simp at h4; omega) h2 h3, fun q hq => ?_, by simp at h4 ⊢; exact h4⟩
  · simp only [wsM, bwM, hcc]
    rw [List.getElem?_set_self hl]
    simp only [bldE]
    simp only [bldE] at h1
    rw [h1]
  · rw [List.getElem?_set_ne (by omega), h5 q (by omega), List.getElem?_set_ne (by omega)]

theorem wb_bld {H : Heap} {b : Nat} {out : List UInt8} {c : UInt8} (h : IsBld H b out) (hn : out.length + 1 ≤ 1099511627776) :
    ∃ H', wbM [.optr b 0 0 0, .p (.int .u8 c.toNat)] H = some (.p .nili, H') ∧ IsBld H' b (out ++ [c]) ∧ (∀ q, q < b → H'[q]? = H[q]?) ∧ H.length ≤ H'.length := by
  obtain ⟨buf, hcc, hl, hbuf⟩ := h.cc
  have hbuf' : (buf = .tight [] ∧ out = []) ∨ ∃ j ver, buf = .own j 0 out.length ver ∧ b < j ∧ (H.set b (bldE 61 (.optr b 0 0 0) buf) ++ [(⟨1, 0, false, [aB c], 5⟩ : Ent)])[j]? = some ⟨1, ver, false, out.map aB, 5⟩ := by
    rcases hbuf with h | ⟨j, ver, h1, h2, h3⟩
    · exact .inl h
    · exact .inr ⟨j, ver, h1, h2, by rw [List.getElem?_append_left (List.getElem?_eq_some_iff.1 h3).1]; exact h3⟩
  obtain ⟨j, v, H2, h1, h2, h3, h4, h5⟩ := app_bld (ys := [c]) (by simp; omega) hn hbuf'
  refine ⟨H2.set b (bldE 61 (.optr b 0 0 0) (.own j 0 (out ++ [c]).length v)), ?_, .put (by simp at h4; omega) h2 h3, fun q hq => ?_, by simp at h4 ⊢; omega⟩
  · simp only [wbM, hcc]
    rw [List.getElem?_set_self hl]
    simp only [bldE]
    simp only [bldE, List.map_cons, List.map_nil, aB] at h1
    rw [h1]
  · rw [List.getElem?_set_ne (by omega), h5 q (by omega), List.getElem?_append_left (by simp; omega), List.getElem?_set_ne (by omega)]

theorem str_bld {H : Heap} {b : Nat} {out : List UInt8} (h : IsBld H b out) :
    ∃ H', strM 61 5 [.optr b 0 0 0] H = some (.p (.str out), H') ∧ (∀ q, q < b → H'[q]? = H[q]?) ∧ H.length ≤ H'.length := by
  obtain ⟨a, buf, hb, ha, hbuf⟩ := h
  rcases hbuf with ⟨rfl, rfl⟩ | ⟨j, ver, rfl, hbj, hj⟩
  · exact ⟨H, strM_nil hb, fun _ _ => rfl, Nat.le_refl _⟩
  · refine ⟨_, strM_own hb hj, fun q hq => ?_, ?_⟩
    · split
      · rfl
      · rw [List.getElem?_set_ne (by omega)]
    · split
      · exact Nat.le_refl _
      · simp

end Go.Proofs.YthnkmebnigefaaaDoor

/-
  lex: the reader's methods, as what they do to the reader.
-/
namespace Go.Proofs.YthnkmebnigefaaaDoor
open Go Go.Abs
variable {base : Prot}
set_option maxRecDepth 20000

/-- Bytes out of numbers. -/
def decB : List PVal → Option (List UInt8)
  | [] => some []
  | .int .u8 n :: r => if 0 ≤ n ∧ n < 256 then (match decB r with | some bs => some (UInt8.ofNat n.toNat :: bs) | none => none) else none
  | _ :: _ => none

theorem decB_map : ∀ bs : List UInt8, decB (bs.map b8) = some bs
  | [] => rfl
  | b :: bs => by
    have : b.toNat < 256 := UInt8.toNat_lt b
    have h : (0 : Int) ≤ b.toNat ∧ (b.toNat : Int) < 256 := by omega
    simp only [List.map_cons, decB, b8, if_pos h]
    rw [show List.map b8 bs = bs.map b8 from rfl, decB_map bs]
    simp

theorem decB_some : ∀ {l : List PVal} {bs : List UInt8}, decB l = some bs → l = bs.map b8
  | [], bs, h => by simp [decB] at h; subst h; rfl
  | x :: r, bs, h => by
    unfold decB at h
    split at h
    · cases r <;> simp_all
    · rename_i n r' heq
      cases heq
      split at h
      · rename_i hn
        cases hd : decB r with
        | none => rw [hd] at h; cases h
        | some bs' =>
          rw [hd] at h
          cases h
          rw [decB_some hd]
          obtain ⟨m, rfl⟩ := Int.eq_ofNat_of_zero_le hn.1
          have hm : m < 256 := by omega
          simp [b8, UInt8.toNat_ofNat', Nat.mod_eq_of_lt hm]
      · cases h
    · cases h

/-- A reader. -/
def rd (bs : List UInt8) (at_ : Nat) : Ent := ⟨2, 0, false, [.p (.agg [.lst (bs.map b8), .int .i64 at_])], 49⟩

def unrd (e : Ent) : Option (List UInt8 × Nat) :=
  if e.size = 2 ∧ e.ver = 0 ∧ e.froz = false ∧ e.ty = 49 then
    match e.elems with
    | [.p (.agg [.lst l, .int .i64 n])] => if 0 ≤ n then (match decB l with | some bs => some (bs, n.toNat) | none => none) else none
    | _ => none
  else none

theorem unrd_rd (bs : List UInt8) (i : Nat) : unrd (rd bs i) = some (bs, i) := by
  simp [unrd, rd, decB_map]

theorem unrd_some {e : Ent} {bs : List UInt8} {i : Nat} (h : unrd e = some (bs, i)) : e = rd bs i := by
  unfold unrd at h
  split at h
  case isFalse => cases h
  rename_i hc
  obtain ⟨h1, h2, h3, h4⟩ := hc
  split at h
  case h_2 => cases h
  rename_i l n hel
  split at h
  case isFalse => cases h
  rename_i hn
  cases hd : decB l with
  | none => rw [hd] at h; cases h
  | some bs' =>
    rw [hd] at h
    cases h
    obtain ⟨m, rfl⟩ := Int.eq_ofNat_of_zero_le hn
    cases e
    simp_all [rd, decB_some hd]

/-- A method of the reader. -/
def rdM (F : List UInt8 → Nat → List AVal → Option (PVal × Nat)) : List AVal → Heap → Option (AVal × Heap)
  | .optr k 0 0 0 :: rest, H => match H[k]? with
    | some e => match unrd e with
      | some (bs, i) => match F bs i rest with
        | some (x, j) => some (.p x, H.set k (rd bs j))
        | none => none
      | none => none
    | none => none
  | _, _ => none

theorem rdM_some {F : List UInt8 → Nat → List AVal → Option (PVal × Nat)} {args : List AVal} {H H' : Heap} {r : AVal} (h : rdM F args H = some (r, H')) :
    ∃ k rest bs i x j, args = .optr k 0 0 0 :: rest ∧ H[k]? = some (rd bs i) ∧ F bs i rest = some (x, j) ∧ r = .p x ∧ H' = H.set k (rd bs j) := by
  unfold rdM at h
  split at h
  case h_2 => cases h
  rename_i k rest
  cases hk : H[k]? with
  | none => rw [hk] at h; cases h
  | some e =>
    rw [hk] at h
    simp only at h
    cases hu : unrd e with
    | none => rw [hu] at h; cases h
    | some p =>
      obtain ⟨bs, i⟩ := p
      rw [hu] at h
      simp only at h
      cases hF : F bs i rest with
      | none => rw [hF] at h; cases h
      | some q =>
        obtain ⟨x, j⟩ := q
        rw [hF] at h
        cases h
        exact ⟨k, rest, bs, i, x, j, rfl, by rw [hk, unrd_some hu], hF, rfl, rfl⟩

theorem rdM_of {F : List UInt8 → Nat → List AVal → Option (PVal × Nat)} {k : Nat} {rest : List AVal} {H : Heap} {bs : List UInt8} {i j : Nat} {x : PVal} (hk : H[k]? = some (rd bs i)) (hF : F bs i rest = some (x, j)) :
    rdM F (.optr k 0 0 0 :: rest) H = some (.p x, H.set k (rd bs j)) := by
  simp [rdM, hk, unrd_rd, hF]

theorem reader_of_vc {T : Tab} (hT : TabOk Tryd.prog base T) {f : FuncId} {lf : LFunc} (hl : lowFunc Tryd.prog gl0 f = some lf) {F : List UInt8 → Nat → List AVal → Option (PVal × Nat)}
    (h : ∀ k rest bs i x j H, H[k]? = some (rd bs i) → F bs i rest = some (x, j) → (rest.length + 1 ≤ lf.n) ∧ vc T lf.body (ownQ T lf.results (.p x) (H.set k (rd bs j))) (initFr (.optr k 0 0 0 :: rest)) H) : MuOk Tryd.prog base f (rdM F) := by
  refine own_of_vc' hmix hT globNone hl fun args H r H' hs hf hb => ?_
  obtain ⟨k, rest, bs, i, x, j, rfl, hk, hF, rfl, rfl⟩ := rdM_some hs
  obtain ⟨hn, hv⟩ := h k rest bs i x j H hk hF
  refine ⟨by simpa using hn, by simp, ?_, .p _, hv⟩
  intro e he y hy z hz
  rcases List.mem_or_eq_of_mem_set he with he | rfl
  · exact hb e he y hy z hz
  · simp [rd] at hy
    subst hy
    simp at hz
    rcases hz with rfl | rfl <;> exact .p _

end Go.Proofs.YthnkmebnigefaaaDoor

/-
  lex: while.
-/
namespace Go.Proofs.YthnkmebnigefaaaDoor
open Go Go.Abs
variable {base : Prot}
set_option maxRecDepth 20000
attribute [local simp] pureS touchV freezeL fuel shiftV

def predOf : FuncId → Option (UInt8 → Bool)
  | 26 => some isSign
  | 27 => some isDigit
  | 31 => some isBlank
  | 33 => some isNoBreak
  | 41 => some isInText
  | 44 => some isInBars
  | _ => none

def Tw : Tab := (((((Tab.none.with 26 (pureS (sByte isSign))).with 27 (pureS (sByte isDigit))).with 31 (pureS (sByte isBlank))).with 33 (pureS (sByte isNoBreak))).with 41 (pureS (sByte isInText))).with 44 (pureS (sByte isInBars))
theorem Tw_ok : TabOk Tryd.prog base Tw := Tab.with_ok (Tab.with_ok (Tab.with_ok (Tab.with_ok (Tab.with_ok (Tab.with_ok Tab.none_ok sign_ok) digit_ok) blank1_ok) blank2_ok) text1_ok) quoted1_ok
theorem Tw_mu (f : FuncId) (a : List AVal) (H : Heap) : Tw.mu f a H = none := (rfl)
theorem Tw_fn {g : FuncId} {p : UInt8 → Bool} (h : predOf g = some p) : Tw.fn g = pureS (sByte p) := by
  unfold predOf at h
  split at h <;> first | (cases h; rfl) | cases h

def whileF (bs : List UInt8) (i : Nat) : List AVal → Option (PVal × Nat)
  | [.p (.clo g [])] => match predOf g with
    | some p => if i ≤ bs.length ∧ bs.length ≤ 65536 then some (.str ((bs.drop i).takeWhile p), i + ((bs.drop i).takeWhile p).length) else none
    | none => none
  | _ => none

theorem while_loop {g : FuncId} {p : UInt8 → Bool} (hg : predOf g = some p) {bs : List UInt8} {i n k : Nat} {H0 : Heap} (hk : k < H0.length) (hb : bs.length ≤ 65536) (hi : i ≤ bs.length) (hn : n = i + ((bs.drop i).takeWhile p).length)
    {Q : LExit → AFr → Heap → Prop} {fr : AFr} (h0 : fr 0 = .optr k 0 0 0) (h1 : fr 1 = .p (.clo g [])) (h5 : fr 5 = .p (.int .i64 i))
    (hq : ∀ fr, fr 0 = .optr k 0 0 0 → fr 5 = .p (.int .i64 i) → Q .normal fr (H0.set k (rd bs n))) : vc Tw lf30_B0 Q fr (H0.set k (rd bs i)) := by
  simp only [lf30_B0, vc_block]
  refine loop_ind (fun fr H => ∃ j : Nat, H = H0.set k (rd bs j) ∧ j ≤ bs.length ∧ n = j + ((bs.drop j).takeWhile p).length ∧ fr 0 = .optr k 0 0 0 ∧ fr 1 = .p (.clo g []) ∧ fr 5 = .p (.int .i64 i))
    (fun fr H => match H[k]? with | some e => (match unrd e with | some (_, j) => bs.length - j | none => 0) | none => 0) ⟨i, rfl, hi, hn, h0, h1, h5⟩ ?_
  rintro fr H ⟨j, rfl, hj, hnj, h0, h1, h5⟩
  by_cases h : j < bs.length
  · have hd : bs.drop j = bs[j] :: bs.drop (j + 1) := List.drop_eq_getElem_cons h
    cases hc : p bs[j] with
    | false =>
      have : n = j := by rw [hnj, hd, List.takeWhile_cons, hc]; simp
      subst this
      simp [h0, h1, h, hk, rd, Tw_mu, Tw_fn hg, sByte_b8, hc]
      exact hq _ (by simp [h0]) (by simp [h5])
    | true =>
      have hn' : n = (j + 1) + ((bs.drop (j + 1)).takeWhile p).length := by rw [hnj, hd, List.takeWhile_cons, hc]; simp; omega
      simp [h0, h1, h, hk, rd, Tw_mu, Tw_fn hg, sByte_b8, hc, wrap_succ (i := j) (by omega)]
      have e : (⟨2, 0, false, [.p (.agg [.lst (bs.map b8), .int .i64 ((j : Int) + 1)])], 49⟩ : Ent) = rd bs (j + 1) := by simp [rd]
      have e' : (⟨2, 0, false, [.p (.agg [.lst (bs.map b8), .int .i64 (j : Int)])], 49⟩ : Ent) = rd bs j := rfl
      refine ⟨⟨j + 1, by simp, by omega, hn', h5⟩, ?_⟩
      rw [e, e', unrd_rd, unrd_rd]
      show bs.length - (j + 1) < bs.length - j
      omega
  · have : j = bs.length := by omega
    subst this
    have : n = bs.length := by rw [hnj]; simp
    subst this
    simp [h0, h1, hk, rd]
    exact hq _ (by simp [h0]) (by simp [h5])

end Go.Proofs.YthnkmebnigefaaaDoor

/-
  lex: while's contract.
-/
namespace Go.Proofs.YthnkmebnigefaaaDoor
open Go Go.Abs
variable {base : Prot}
set_option maxRecDepth 20000
attribute [local simp] pureS touchV freezeL fuel shiftV

theorem bytesOf_map : ∀ l : List UInt8, bytesOf (l.map fun b => .p (b8 b)) = some l
  | [] => rfl
  | b :: l => by simp [bytesOf, bytesOf_map l]

theorem bytesOf_map2 (l : List UInt8) : bytesOf (l.map (AVal.p ∘ b8)) = some l := bytesOf_map l

theorem sizeOk_map (l : List UInt8) : sizeOk 1 (l.map b8) = true := by simp [sizeOk]

theorem while_ok : MuOk Tryd.prog base 30 (rdM whileF) := by
  refine reader_of_vc Tw_ok low30 fun k rest bs i x n H hk hF => ?_
  have hkl : k < H.length := (List.getElem?_eq_some_iff.1 hk).1
  unfold whileF at hF
  split at hF
  case h_2 => cases hF
  rename_i g
  cases hg : predOf g with
  | none => rw [hg] at hF; cases hF
  | some p =>
    rw [hg] at hF
    simp only at hF
    split at hF
    case isFalse => cases hF
    rename_i hc
    obtain ⟨hi, hb⟩ := hc
    cases hF
    refine ⟨by simp [lf30], ?_⟩
    have hset : H.set k (rd bs i) = H := by
      apply List.ext_getElem?
      intro j
      by_cases hj : k = j
      · subst hj; rw [List.getElem?_set_self hkl, hk]
      · simp [hj]
    generalize hn : i + ((bs.drop i).takeWhile p).length = n
    have hnl : n ≤ bs.length := by
      have : ((bs.drop i).takeWhile p).length ≤ (bs.drop i).length := (List.takeWhile_prefix p).length_le
      simp at this; omega
    have htw : (bs.take n).drop i = (bs.drop i).takeWhile p := by
      have h1 : (bs.drop i).takeWhile p = (bs.drop i).take ((bs.drop i).takeWhile p).length := List.prefix_iff_eq_take.1 (List.takeWhile_prefix p)
      rw [List.drop_take, h1]
      congr 1
      omega
    have hl := fun (Q : LExit → AFr → Heap → Prop) (fr : AFr) => while_loop (n := n) (Q := Q) (fr := fr) hg hkl hb hi hn.symm
    simp only [hset] at hl
    simp [lf30, hk, rd]
    refine hl _ _ (by simp) (by simp) (by simp) (fun fr h0 h5 => ?_)
    have h1 : (i : Int) ≤ n := by omega
    have h2 : (n : Int) ≤ bs.length := by omega
    have h3 : List.drop i (List.take n (List.map b8 bs)) = ((bs.drop i).takeWhile p).map b8 := by rw [← List.map_take, ← List.map_drop, htw]
    simp [h0, h5, hkl, rd, h1, hnl, sizeOk_map, h3, bytesOf_map2, ownQ]

end Go.Proofs.YthnkmebnigefaaaDoor

/-
  lex: blank.
-/
namespace Go.Proofs.YthnkmebnigefaaaDoor
open Go Go.Abs
variable {base : Prot}
set_option maxRecDepth 20000

/-- What is left behind blanks and notes. -/
def skipN : Nat → List UInt8 → List UInt8
  | 0, l => l
  | n + 1, l => match l.dropWhile isBlank with
    | [] => []
    | b :: r => if b = 59 then skipN n ((b :: r).dropWhile isNoBreak) else b :: r

def skip (l : List UInt8) : List UInt8 := skipN (l.length + 1) l

theorem dropWhile_le {α : Type} (p : α → Bool) (l : List α) : (l.dropWhile p).length ≤ l.length := (List.dropWhile_suffix p).length_le

theorem skipN_eq : ∀ (n m : Nat) (l : List UInt8), l.length < n → l.length < m → skipN n l = skipN m l
  | 0, _, _, h, _ => by omega
  | _, 0, _, _, h => by omega
  | n + 1, m + 1, l, hn, hm => by
    simp only [skipN]
    have h1 := dropWhile_le isBlank l
    cases hd : l.dropWhile isBlank with
    | nil => rfl
    | cons b r =>
      simp only
      split
      · rename_i hb
        subst hb
        rw [hd] at h1
        have h2 : ((59 :: r : List UInt8).dropWhile isNoBreak).length ≤ r.length := by
          rw [List.dropWhile_cons, show isNoBreak 59 = true from by decide]
          exact dropWhile_le _ _
        simp only [List.length_cons] at h1
        exact skipN_eq n m _ (by omega) (by omega)
      · rfl

theorem skip_eq (l : List UInt8) : skip l = match l.dropWhile isBlank with
    | [] => []
    | b :: r => if b = 59 then skip ((b :: r).dropWhile isNoBreak) else b :: r := by
  unfold skip
  rw [skipN]
  have h1 := dropWhile_le isBlank l
  cases hd : l.dropWhile isBlank with
  | nil => rfl
  | cons b r =>
    simp only
    split
    · rename_i hb
      subst hb
      rw [hd] at h1
      have h2 : ((59 :: r : List UInt8).dropWhile isNoBreak).length ≤ r.length := by
        rw [List.dropWhile_cons, show isNoBreak 59 = true from by decide]
        exact dropWhile_le _ _
      simp only [List.length_cons] at h1
      exact skipN_eq _ _ _ (by omega) (by omega)
    · rfl

end Go.Proofs.YthnkmebnigefaaaDoor
