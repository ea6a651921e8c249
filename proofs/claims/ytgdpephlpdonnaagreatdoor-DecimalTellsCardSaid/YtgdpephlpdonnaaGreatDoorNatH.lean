/-
  What nat.Text computes: the decimal numeral. No conditions beyond the lemmas' own hypotheses.
-/
import Derived.Test.YtgdpephlpdonnaaGreatDoorNatF
import Derived.Test.YtgdpephlpdonnaaGreatDoorNatE
import Derived.Test.YtgdpephlpdonnaaGreatDoorAbsThree
import Derived.Lib.Builder
import Derived.Lib.UnsafeStr
import Derived.RegionTactic
import Derived.WalkKit
import Derived.Test.YtgdpephlpdonnaaGreatDoorNatC
import Derived.Test.YtgdpephlpdonnaaGreatDoorNatG
import Derived.Test.YtgdpephlpdonnaaGreatDoorAbsFour
import Derived.Test.YtgdpephlpdonnaaGreatDoorNatB
set_option linter.unusedSimpArgs false
set_option linter.unusedVariables false
set_option linter.constructorNameAsVariable false

/-
  strings.Builder at this seat: its methods, and what it holds.
-/
namespace Go.Proofs.YtgdpephlpdonnaaGreatDoor
open Go Go.RowKit Go.Abs
variable {base : Prot}
set_option maxRecDepth 20000
theorem infoB : (Tryz.prog.info? 106).map (·.size) = some 2 := by kernel_rfl
theorem lies_own {P : Program} {t : TypeId} (hs : P.cellsOf t ≠ 0) (count : Nat) (h : 1 ≤ count) : liesAt P P.depth t count 0 t 1 = true := by
  have hd : P.depth = (2 * (P.types.size + Made.depth) + 1) + 1 := rfl
  rw [hd]
  simp only [liesAt, Bool.or_eq_true]
  left
  rw [hd]
  simp [rowAt, hs, h, sameLayout]
set_option maxRecDepth 100000 in
theorem cc_used (b : Nat) (w : World) (h0 : w.cell? ⟨b, 0, none⟩ = some (.pointer (some ⟨b, 0, none⟩))) :
    Calls Tryz.prog 112 #[.pointer (some ⟨b, 0, none⟩)] w fun e w' => e = .returned (.tuple #[]) ∧ w' = w := by
  obtain ⟨j, hj, _⟩ := Option.map_eq_some_iff.1 infoB
  go_enter Tryz.func112, Tryz.ntmps112
  go_wp2
  rw [Lib.run_neq_ptr_same w _ Tryz.underlying103 hj]
  go_wp2
  go_end0
  exact ⟨rfl, rfl⟩
set_option maxRecDepth 100000 in
theorem cc_fresh (b cells : Nat) (w : World) (h0 : w.cell? ⟨b, 0, none⟩ = some (.pointer none)) (hc : 2 ≤ cells) (hsh : w.shape? b = some (106, cells)) (hfz : w.frozen? ⟨b, 0, none⟩ = false) :
    Calls Tryz.prog 112 #[.pointer (some ⟨b, 0, none⟩)] w fun e w' => e = .returned (.tuple #[]) ∧ w' = w.setCell ⟨b, 0, none⟩ (.pointer (some ⟨b, 0, none⟩)) := by
  obtain ⟨j, hj, hjs⟩ := Option.map_eq_some_iff.1 infoB
  have hcs : Tryz.prog.cellsOf 106 = 2 := by kernel_rfl
  have hl : liesAt Tryz.prog Tryz.prog.depth 106 (cells / Tryz.prog.cellsOf 106) 0 106 1 = true := lies_own (by rw [hcs]; decide) _ (by rw [hcs]; omega)
  have h1 := Lib.run_to_unsafe w ⟨b, 0, none⟩ Tryz.underlying103 Tryz.underlying149 hj (by rw [hjs]; decide) hsh (by show 0 < cells; omega)
  have h2 := Lib.run_from_unsafe w ⟨b, 0, none⟩ Tryz.underlying149 Tryz.underlying103 hj hsh hl
  clear hsh hl hcs hc
  go_enter Tryz.func112, Tryz.ntmps112
  go_wp2
  rw [run_callFunc_extern Tryz.func135 (by kernel_rfl) (by kernel_rfl) (by kernel_rfl) (e := Extern.AbiNoEscape.same) (by kernel_rfl)]
  rw [Lib.run_noEscape]
  simp only [Result.andThen]
  rw [Oper.upon_value]
  go_wp2
  go_end0
  exact ⟨rfl, rfl⟩
set_option maxRecDepth 100000 in
set_option maxHeartbeats 2000000 in
theorem str_none (b : Nat) (w : World) (c1 : w.drew.cell? ⟨b, 1, none⟩ = some (.slice none 0 0)) :
    Calls Tryz.prog 87 #[.pointer (some ⟨b, 0, none⟩)] w fun e w' => e = .returned (.string ⟨#[]⟩) ∧ w' = w.drew := by
  have hUS : ∀ W q, (Builtin.unsafeString_ #[130, 3] 9 #[.pointer q, .int .i64 0]).run Tryz.prog W = .ok (.string .empty) W := fun W q => Lib.run_unsafeString_none W _ _ _ q
  have hSD : (Builtin.unsafeSliceData_ #[104] 130 #[.slice none 0 0]).run Tryz.prog w.drew = .ok (.pointer none) w.drew := rfl
  go_enter Tryz.func87, Tryz.ntmps87
  go_wp2
  go_region
  all_goals (go_wp2; go_ret; exact ⟨rfl, rfl⟩)
set_option maxRecDepth 100000 in
set_option maxHeartbeats 2000000 in
theorem str_noroom (b g cells : Nat) (w : World) (c1 : w.drew.cell? ⟨b, 1, none⟩ = some (.slice (some ⟨g, 0, none⟩) 0 0)) (hb : b < w.heap.size) (hsh : w.drew.shape? g = some (5, cells)) :
    Calls Tryz.prog 87 #[.pointer (some ⟨b, 0, none⟩)] w fun e w' => e = .returned (.string ⟨#[]⟩) ∧ w' = w.drew.alloc (.view ⟨g, 0, none⟩ 5) := by
  have hUS : ∀ W q, (Builtin.unsafeString_ #[130, 3] 9 #[.pointer q, .int .i64 0]).run Tryz.prog W = .ok (.string .empty) W := fun W q => Lib.run_unsafeString_none W _ _ _ q
  have hSD : (Builtin.unsafeSliceData_ #[104] 130 #[.slice (some ⟨g, 0, none⟩) 0 0]).run Tryz.prog w.drew = .ok (.pointer (some ⟨w.drew.heap.size, 0, none⟩)) (w.drew.alloc (.view ⟨g, 0, none⟩ 5)) :=
    Lib.run_unsafeSliceData_zero w.drew _ _ 5 Tryz.underlying130 ⟨g, 0, none⟩ 0 (5, cells) hsh
  have hold : (w.drew.alloc (.view ⟨g, 0, none⟩ 5)).heap[b]? = w.drew.heap[b]? := Lib.alloc_old w.drew _ b hb
  have c2 : (w.drew.alloc (.view ⟨g, 0, none⟩ 5)).cell? ⟨b, 1, none⟩ = some (.slice (some ⟨g, 0, none⟩) 0 0) := by
    rw [← c1]; exact World.cell?_of_block (a := ⟨b, 1, none⟩) hold
  have c3 : (w.alloc (.view ⟨g, 0, none⟩ 5)).drew.cell? ⟨b, 1, none⟩ = some (.slice (some ⟨g, 0, none⟩) 0 0) := c2
  have c0 : w.cell? ⟨b, 1, none⟩ = some (.slice (some ⟨g, 0, none⟩) 0 0) := c1
  clear hold hsh
  go_enter Tryz.func87, Tryz.ntmps87
  go_wp2
  go_region
  all_goals (go_wp2; go_ret; exact ⟨rfl, rfl⟩)
set_option maxRecDepth 100000 in
set_option maxHeartbeats 2000000 in
theorem str_room (b g cap : Nat) (w : World) (hc0 : cap ≠ 0) (c1 : w.drew.cell? ⟨b, 1, none⟩ = some (.slice (some ⟨g, 0, none⟩) 0 cap)) :
    Calls Tryz.prog 87 #[.pointer (some ⟨b, 0, none⟩)] w fun e w' => e = .returned (.string ⟨#[]⟩) ∧ w' = w.drew := by
  have hUS : ∀ W q, (Builtin.unsafeString_ #[130, 3] 9 #[.pointer q, .int .i64 0]).run Tryz.prog W = .ok (.string .empty) W := fun W q => Lib.run_unsafeString_none W _ _ _ q
  have hSD : (Builtin.unsafeSliceData_ #[104] 130 #[.slice (some ⟨g, 0, none⟩) 0 cap]).run Tryz.prog w.drew = .ok (.pointer (some ⟨g, 0, none⟩)) w.drew :=
    Lib.run_unsafeSliceData_row _ _ _ _ _ _ hc0
  clear hc0
  go_enter Tryz.func87, Tryz.ntmps87
  go_wp2
  go_region
  all_goals (go_wp2; go_ret; exact ⟨rfl, rfl⟩)
set_option maxRecDepth 100000 in
set_option maxHeartbeats 2000000 in
theorem str_some (b g cap cells : Nat) (l : List UInt8) (w : World) (h0 : l ≠ []) (hcap : l.length ≤ cap) (hcm : cap ≤ maxLen) (hcl : l.length ≤ cells) (hsh : w.drew.shape? g = some (5, cells))
    (hcell : ∀ j x, l[j]? = some x → w.drew.cell? ((⟨g, 0, none⟩ : Addr).add j) = some (.int .u8 x.toNat)) (c1 : w.drew.cell? ⟨b, 1, none⟩ = some (.slice (some ⟨g, 0, none⟩) l.length cap)) :
    Calls Tryz.prog 87 #[.pointer (some ⟨b, 0, none⟩)] w fun e w' => e = .returned (.string ⟨l.toArray⟩) ∧ w' = w.drew.freeze ⟨g, 0, none⟩ l.length := by
  have hl0 : l.length ≠ 0 := by simpa using h0
  have hSD : (Builtin.unsafeSliceData_ #[104] 130 #[.slice (some ⟨g, 0, none⟩) l.length cap]).run Tryz.prog w.drew = .ok (.pointer (some ⟨g, 0, none⟩)) w.drew :=
    Lib.run_unsafeSliceData_row _ _ _ _ _ _ (by omega)
  have hUS : (Builtin.unsafeString_ #[130, 3] 9 #[.pointer (some ⟨g, 0, none⟩), .int .i64 l.length]).run Tryz.prog w.drew = .ok (.string ⟨l.toArray⟩) (w.drew.freeze ⟨g, 0, none⟩ l.length) :=
    Lib.run_unsafeString_row w.drew 130 3 9 5 Tryz.underlying130 (by kernel_rfl) g cells hsh l h0 hcl (by unfold maxLen at hcm; omega) hcell
  clear hl0 hcell hsh hcl hcap hcm h0
  go_enter Tryz.func87, Tryz.ntmps87
  go_wp2
  go_region
  all_goals (go_wp2; go_ret; exact ⟨rfl, rfl⟩)
attribute [local simp] pureS touchV freezeL fuel shiftV
theorem cc_ok : MuOk Tryz.prog base 112 (ccM 106) := cc_mu (by kernel_rfl) cc_used cc_fresh
theorem bstr_ok : MuOk Tryz.prog base 87 (strM 106 5) := str_mu (by kernel_rfl) str_none str_noroom str_room str_some
theorem ccM_some {tB : TypeId} {k : Nat} {H H1 : Heap} {r : AVal} (h : ccM tB [.optr k 0 0 0] H = some (r, H1)) :
    r = .p (.tup []) ∧ ∃ a buf, H[k]? = some (bldE tB a buf) ∧ H1 = H.set k (bldE tB (.optr k 0 0 0) buf) := by
  simp only [ccM] at h
  split at h
  case h_2 => cases h
  rename_i a buf t hk
  split at h
  case isFalse => cases h
  rename_i ht
  subst ht
  split at h
  · cases h
    exact ⟨rfl, _, buf, hk, rfl⟩
  · rename_i kk
    split at h
    case isFalse => cases h
    rename_i hkk
    cases h
    rw [hkk] at hk
    clear hkk
    refine ⟨rfl, _, buf, hk, ?_⟩
    apply List.ext_getElem?
    intro j
    by_cases hj : k = j
    · subst hj
      have := (List.getElem?_eq_some_iff.1 hk).1
      rw [List.getElem?_set_self this, hk]; rfl
    · simp [hj]
  · cases h
theorem appV_keep {size bytes : Nat} {ty : TypeId} {x x' : AVal} {ys : List AVal} {H H2 : Heap} {k : Nat} {e : Ent} (h : appV size bytes ty x ys H = some (x', H2)) (hk : H[k]? = some e) (hs : e.size ≠ size) : H2[k]? = some e := by
  have hkl := (List.getElem?_eq_some_iff.1 hk).1
  unfold appV at h
  split at h
  case isFalse => cases h
  split at h
  · rename_i j off len ver
    cases hj : H[j]? with
    | none => rw [hj] at h; cases h
    | some e2 =>
      rw [hj] at h
      simp only at h
      split at h
      case isFalse => cases h
      rename_i hc
      cases h
      have : k ≠ j := by
        rintro rfl
        rw [hk] at hj
        cases hj
        exact hs hc.2.1
      rw [List.getElem?_set_ne (Ne.symm this), hk]
  · split at h
    case isFalse => cases h
    cases h
    rw [List.getElem?_append_left hkl, hk]
  · cases h
/-- A write to a builder: its bytes, and the result. -/
def bwM (r : AVal) (k : Nat) (ys : List AVal) (H : Heap) : Option (AVal × Heap) := match ccM 106 [.optr k 0 0 0] H with
  | some (_, H1) => match H1[k]? with
    | some ⟨2, 0, false, [.agg [_, buf]], 106⟩ => match appV 1 1 5 buf ys H1 with
      | some (.own j o n v, H2) => some (r, H2.set k (bldE 106 (.optr k 0 0 0) (.own j o n v)))
      | _ => none
    | _ => none
  | none => none
theorem bwM_some {r r' : AVal} {k : Nat} {ys : List AVal} {H H' : Heap} (h : bwM r k ys H = some (r', H')) :
    r' = r ∧ ∃ a buf H1 j o n v H2, H[k]? = some (bldE 106 a buf) ∧ ccM 106 [.optr k 0 0 0] H = some (.p (.tup []), H1) ∧ H1 = H.set k (bldE 106 (.optr k 0 0 0) buf) ∧ appV 1 1 5 buf ys H1 = some (.own j o n v, H2) ∧ H' = H2.set k (bldE 106 (.optr k 0 0 0) (.own j o n v)) := by
  unfold bwM at h
  split at h
  case h_2 => cases h
  rename_i u H1 hcc
  obtain ⟨rfl, a, buf, hk, rfl⟩ := ccM_some hcc
  have hkl := (List.getElem?_eq_some_iff.1 hk).1
  rw [List.getElem?_set_self hkl] at h
  simp only [bldE] at h
  split at h
  case h_2 => cases h
  rename_i j o n v H2 happ
  cases h
  exact ⟨rfl, a, buf, _, j, o, n, v, H2, hk, hcc, rfl, happ, rfl⟩
def wsM : List AVal → Heap → Option (AVal × Heap)
  | [.optr k 0 0 0, .p (.str s)], H => bwM (.p (.tup [.int .i64 s.length, .nili])) k (s.map aB) H
  | _, _ => none
def Tbl : Tab := Tab.none.own 112 (ccM 106)
theorem Tbl_ok : TabOk Tryz.prog base Tbl := Tab.own_ok Tab.none_ok cc_ok
theorem Tbl_cc (a : List AVal) (H : Heap) : Tbl.mu 112 a H = ccM 106 a H := (rfl)
theorem ws_ok : MuOk Tryz.prog base 86 wsM := by
  refine own_of_vc hmix Tbl_ok globNone low86 fun args H r H' hs hf => ?_
  unfold wsM at hs
  split at hs
  case h_2 => cases hs
  rename_i k s
  obtain ⟨rfl, a, buf, H1, j, o, n, v, H2, hk, hcc, hH1, happ, rfl⟩ := bwM_some hs
  have hkl := (List.getElem?_eq_some_iff.1 hk).1
  have hk1 : H1[k]? = some (bldE 106 (.optr k 0 0 0) buf) := by rw [hH1, List.getElem?_set_self hkl]
  have hk2 : H2[k]? = some (bldE 106 (.optr k 0 0 0) buf) := appV_keep happ hk1 (by simp [bldE])
  clear hH1 hk hs hkl
  unfold aB at happ
  unfold bldE at hk1 hk2 ⊢
  refine ⟨by simp [lf86], ?_⟩
  simp [lf86, retQ, Tbl_cc, hcc, hk1, hk2, happ, -appV]
/-- Array b is a builder that holds these bytes. -/
def IsBld (H : Heap) (b : Nat) (out : List UInt8) : Prop :=
  ∃ a buf, H[b]? = some (bldE 106 a buf) ∧ (a = .p .nilp ∨ a = .optr b 0 0 0) ∧ ((buf = .tight [] ∧ out = []) ∨ ∃ j ver, buf = .own j 0 out.length ver ∧ b < j ∧ H[j]? = some ⟨1, ver, false, out.map aB, 5⟩)
theorem IsBld.cc {H : Heap} {b : Nat} {out : List UInt8} (h : IsBld H b out) : ∃ buf, ccM 106 [.optr b 0 0 0] H = some (.p (.tup []), H.set b (bldE 106 (.optr b 0 0 0) buf)) ∧ b < H.length ∧
    ((buf = .tight [] ∧ out = []) ∨ ∃ j ver, buf = .own j 0 out.length ver ∧ b < j ∧ (H.set b (bldE 106 (.optr b 0 0 0) buf))[j]? = some ⟨1, ver, false, out.map aB, 5⟩) := by
  obtain ⟨a, buf, hb, ha, hbuf⟩ := h
  have hl := (List.getElem?_eq_some_iff.1 hb).1
  refine ⟨buf, ?_, hl, ?_⟩
  · rcases ha with rfl | rfl
    · exact ccM_fresh hb
    · rw [ccM_used hb]
      congr 2
      apply List.ext_getElem?
      intro q
      by_cases hq : b = q
      · subst hq; rw [List.getElem?_set_self hl, hb]
      · rw [List.getElem?_set_ne hq]
  · rcases hbuf with h | ⟨j, ver, h1, h2, h3⟩
    · exact .inl h
    · exact .inr ⟨j, ver, h1, h2, by rw [List.getElem?_set_ne (by omega)]; exact h3⟩
/-- The append to a builder's bytes. -/
theorem app_bld {H1 : Heap} {b : Nat} {out ys : List UInt8} {buf : AVal} (hl : b < H1.length) (hn : out.length + ys.length ≤ 1099511627776)
    (hbuf : (buf = .tight [] ∧ out = []) ∨ ∃ j ver, buf = .own j 0 out.length ver ∧ b < j ∧ H1[j]? = some ⟨1, ver, false, out.map aB, 5⟩) :
    ∃ j v H2, appV 1 1 5 buf (ys.map aB) H1 = some (.own j 0 (out ++ ys).length v, H2) ∧ b < j ∧ H2[j]? = some ⟨1, v, false, (out ++ ys).map aB, 5⟩ ∧ H1.length ≤ H2.length ∧ ∀ q, q ≤ b → H2[q]? = H1[q]? := by
  have hy : (ys.map aB).all (fun y => y.cells.length == 1 && y.cells.all AVal.isCell) = true := by
    rw [List.all_eq_true]
    intro x hx
    obtain ⟨y, _, rfl⟩ := List.mem_map.1 hx
    rfl
  have hm : maxLen = 9223372036854775807 := rfl
  rcases hbuf with ⟨rfl, rfl⟩ | ⟨j, ver, rfl, hbj, hj⟩
  · refine ⟨H1.length, 0, H1 ++ [⟨1, 0, false, ys.map aB, 5⟩], ?_, hl, ?_, ?_, ?_⟩
    · unfold appV
      rw [if_pos ⟨hy, by decide⟩]
      simp only
      rw [if_pos (by simp at hn ⊢; omega)]
      simp
    · simp
    · simp
    · intro q hq
      rw [List.getElem?_append_left (by omega)]
  · have hjl := (List.getElem?_eq_some_iff.1 hj).1
    refine ⟨j, ver + 1, H1.set j ⟨1, ver + 1, false, out.map aB ++ ys.map aB, 5⟩, ?_, hbj, ?_, ?_, ?_⟩
    · unfold appV
      rw [if_pos ⟨hy, by decide⟩]
      simp only
      rw [hj]
      simp only
      rw [if_pos (by simp at hn ⊢; omega)]
      simp
    · simp [hjl]
    · simp
    · intro q hq
      rw [List.getElem?_set_ne (by omega)]
theorem IsBld.put {H2 : Heap} {b : Nat} {out : List UInt8} {j v : Nat} (hb : b < H2.length) (hbj : b < j) (hj : H2[j]? = some ⟨1, v, false, out.map aB, 5⟩) : IsBld (H2.set b (bldE 106 (.optr b 0 0 0) (.own j 0 out.length v))) b out :=
  ⟨_, _, List.getElem?_set_self hb, .inr rfl, .inr ⟨j, v, rfl, hbj, by rw [List.getElem?_set_ne (by omega)]; exact hj⟩⟩
theorem ws_bld {H : Heap} {b : Nat} {out s : List UInt8} (h : IsBld H b out) (hn : out.length + s.length ≤ 1099511627776) :
    ∃ H', wsM [.optr b 0 0 0, .p (.str s)] H = some (.p (.tup [.int .i64 s.length, .nili]), H') ∧ IsBld H' b (out ++ s) ∧ (∀ q, q < b → H'[q]? = H[q]?) ∧ H.length ≤ H'.length := by
  obtain ⟨buf, hcc, hl, hbuf⟩ := h.cc
  obtain ⟨j, v, H2, h1, h2, h3, h4, h5⟩ := app_bld (ys := s) (by simpa using hl) hn hbuf
  refine ⟨H2.set b (bldE 106 (.optr b 0 0 0) (.own j 0 (out ++ s).length v)), ?_, .put (by simp at h4; omega) h2 h3, fun q hq => ?_, by simp at h4 ⊢; exact h4⟩
  · simp only [wsM, bwM, hcc]
    rw [List.getElem?_set_self hl]
    simp only [bldE]
    simp only [bldE] at h1
    rw [h1]
  · rw [List.getElem?_set_ne (by omega), h5 q (by omega), List.getElem?_set_ne (by omega)]
theorem str_bld {H : Heap} {b : Nat} {out : List UInt8} (h : IsBld H b out) :
    ∃ H', strM 106 5 [.optr b 0 0 0] H = some (.p (.str out), H') ∧ (∀ q, q < b → H'[q]? = H[q]?) ∧ H.length ≤ H'.length := by
  obtain ⟨a, buf, hb, ha, hbuf⟩ := h
  rcases hbuf with ⟨rfl, rfl⟩ | ⟨j, ver, rfl, hbj, hj⟩
  · exact ⟨H, strM_nil hb, fun _ _ => rfl, Nat.le_refl _⟩
  · refine ⟨_, strM_own hb hj, fun q hq => ?_, ?_⟩
    · split
      · rfl
      · rw [List.getElem?_set_ne (by omega)]
    · split
      · exact Nat.le_refl _
      · simp
end Go.Proofs.YtgdpephlpdonnaaGreatDoor

/-
  strings.Repeat of a nought, up to 19 times; slices.Backward.
-/
namespace Go.Proofs.YtgdpephlpdonnaaGreatDoor
open Go Go.Abs Go.Limbs
variable {base : Prot}
set_option maxRecDepth 20000
/-- Functions that are carried out, not looked up. -/
def Lrep : FuncId → Option LFunc := fun f => if f = 104 then some lf104 else if f = 105 then some lf105 else if f = 129 then some lf129 else if f = 73 then some lf73 else none
theorem Lrep_ok : ∀ f lf, Lrep f = some lf → lowFunc Tryz.prog gl0 f = some lf := by
  intro f lf h
  unfold Lrep at h
  split at h
  · rename_i e; cases h; subst e; exact low104
  split at h
  · rename_i e; cases h; subst e; exact low105
  split at h
  · rename_i e; cases h; subst e; exact low129
  split at h
  · rename_i e; cases h; subst e; exact low73
  · cases h
def Trep : Tab := Tab.deep Tab.none Lrep 10 3
theorem Trep_ok : TabOk Tryz.prog base Trep := Tab.deep_ok hmix Tab.none_ok globNone Lrep_ok 10 3
/-- Noughts. -/
def noughts (n : Nat) : List UInt8 := List.replicate n 48
def eqO (a b : Option PVal) : Bool := match a, b with
  | some x, some y => eqP 5 x y
  | _, _ => false
theorem eqO_ok {a b : Option PVal} (h : eqO a b = true) : a = b := by
  unfold eqO at h
  split at h
  · rw [eqP_ok _ _ _ h]
  · cases h
theorem rep_run : (List.range 20).all (fun k => eqO (runP Trep 10 lf69 [.str [48], .int .i64 (k : Nat)]) (some (.str (noughts k)))) = true := by kernel_rfl
def sRep : List PVal → Option PVal
  | [.str s, .int .i64 n] => if s = [48] ∧ 0 ≤ n ∧ n < 20 then some (.str (noughts n.toNat)) else none
  | _ => none
theorem rep_ok : FnOk Tryz.prog base 69 (pureS sRep) := by
  refine pure_of_run hmix Trep_ok globNone low69 10 fun args x hs => ?_
  unfold sRep at hs
  split at hs
  case h_2 => cases hs
  rename_i s n
  split at hs
  case isFalse => cases hs
  rename_i hn
  cases hs
  obtain ⟨rfl, h0, h1⟩ := hn
  obtain ⟨k, rfl⟩ := Int.eq_ofNat_of_zero_le h0
  exact eqO_ok (List.all_eq_true.1 rep_run k (List.mem_range.2 (by omega)))
end Go.Proofs.YtgdpephlpdonnaaGreatDoor

/-
  slices.Backward in a caller: its range.
-/
namespace Go.Proofs.YtgdpephlpdonnaaGreatDoor
open Go Go.Abs Go.RowKit
variable {base : Prot}
set_option maxRecDepth 20000
section
attribute [local irreducible] vc
attribute [local simp] pureS touchV freezeL fuel shiftV
/-- slices.Backward: a closure over a box of its own, that holds the slice. -/
def sBack : List PVal → Option (AVal × Heap)
  | [.lst es] => some (.clo 111 [.optr 0 0 0 0], [⟨1, 0, false, [.p (.lst es)], 47⟩])
  | _ => none
theorem backw_ok : FnOk Tryz.prog base 85 sBack := by
  refine ⟨goodFn_of_low low85, fun args r E hs c w vs hI hr => ?_⟩
  unfold sBack at hs
  split at hs
  case h_2 => cases hs
  rename_i es
  cases hs
  refine (calls_of_vc hmix Tab.none_ok globNone low85 (Q := fun r H => r = .clo 111 [.optr 0 0 0 0] ∧ H = [⟨1, 0, false, [.p (.lst es)], 47⟩]) (by simp [lf85]) hI hr (fun _ => ?_)).mono fun e w' ⟨v, r2, H2, c', he, hq, st, i', rp⟩ => ?_
  · simp [lf85, retQ, mkClo, allP]
  · obtain ⟨rfl, rfl⟩ := hq
    exact ⟨v, c', he, st, i', rp⟩
end
/-- A string of at most so many bytes, and its place. -/
abbrev Pl (M : Nat) := {x : Nat × List UInt8 // x.2.length ≤ M}
def plEnc {M : Nat} (x : Pl M) : Array Value := #[.int .i64 (x.1.1 : Int), .string ⟨x.1.2.toArray⟩]
def plAt (M : Nat) (es : List (List UInt8)) (k : Nat) : Pl M := if h : (es.getD k []).length ≤ M then ⟨(k, es.getD k []), h⟩ else ⟨(k, []), by simp⟩
theorem plAt_val {M : Nat} {es : List (List UInt8)} {k : Nat} {s : List UInt8} (h : es[k]? = some s) (hs : s.length ≤ M) : (plAt M es k).1 = (k, s) := by
  have : es.getD k [] = s := by simp [List.getD, h]
  unfold plAt
  rw [dif_pos (by rw [this]; exact hs)]
  simp only [this]
def plFr {M : Nat} (fr : AFr) (p1 p2 i1 i2 : Nat) (x : Pl M) : AFr := put (put (put (put fr (some p1) (.p (.int .i64 (x.1.1 : Int)))) (some p2) (.p (.str x.1.2))) (some i1) (.p (.int .i64 (x.1.1 : Int)))) (some i2) (.p (.str x.1.2))
def plAct {M : Nat} (a : Act) (p1 p2 i1 i2 : Nat) (x : Pl M) : Act := (((a.put (some p1) (.int .i64 (x.1.1 : Int))).put (some p2) (.string ⟨x.1.2.toArray⟩)).put (some i1) (.int .i64 (x.1.1 : Int))).put (some i2) (.string ⟨x.1.2.toArray⟩)
theorem back_range {gl : Nat → AVal} {n : Nat} {T : Tab} (hT : TabOk Tryz.prog base T) (hg : GlobOk base gl) {t p1 p2 i1 i2 : Nat} {assign body tail : Code} {rs : List LRes} {Q : AVal → Heap → Prop} {c : Ctx} {H : Heap} {w : World} {fr : AFr} {a : Act} (M : Nat) (hM : M ≤ maxLen)
    (hI : Inv base c H w) (hs : Sim n c fr a) (hd : a.defers = []) (ht : t < n) {kb : Nat} (hft : fr t = .clo 111 [.optr kb 0 0 0])
    {es : List (List UInt8)} {fz : Bool} {ty : TypeId} (hk : H[kb]? = some ⟨1, 0, fz, [.p (.lst (es.map .str))], ty⟩) (hlen : es.length ≤ 1000000000) (hes : ∀ s ∈ es, s.length ≤ M)
    (hassign : ∀ (l : Nat) (x : Pl M) (W : World) (K : Act → World → Prop), K (plAct a p1 p2 i1 i2 x) W →
      assign.wpIn (WR l) 4 Tryz.prog (Exit.then K (fun _ _ _ => False)) { tmps := ((#[p1, p2].zip (plEnc x)).foldl (fun t (p, v) => t.setIfInBounds p v) a.tmps), defers := [] } W)
    (I : List (Pl M) → Heap → Prop) (h0 : I [] (freeze1 H kb)) (hpl : plainCode body = true)
    (hb : ∀ pre x H', I pre H' → pre.length < es.length → vc T (lowCode Tryz.prog gl n body) (fun e _ H'' => e = .normal ∧ I (pre ++ [x]) H'') (plFr fr p1 p2 i1 i2 x) H')
    (hq : ∀ H', I (upto (fun j => plAt M es (es.length - 1 - j)) es.length) H' → vc T (lowCode Tryz.prog gl n tail) (retQ T rs Q) fr H') :
    (Code.rangeFunc (.tmp t) #[p1, p2] assign body).wp Tryz.prog (fun e a2 w2 => e = .normal ∧ ∃ D fr2 H2 c2, a2.defers = [{ target := .collected D, args := #[] }] ∧ Step c w c2 w2 ∧ Inv base c2 H2 w2 ∧ Sim n c2 fr2 a2 ∧
        w2.heap[D]? = some (.deferred (some [])) ∧ w.heap.size ≤ D ∧ vc T (lowCode Tryz.prog gl n tail) (retQ T rs Q) fr2 H2) a w := by
  have rt := hs.2 t ht
  rw [hft] at rt
  obtain ⟨v0, hv0, r0⟩ : ∃ v0, a.tmps.getD t undef = .func (.func 111) #[] #[v0] ∧ Rep c (.optr kb 0 0 0) v0 := by
    generalize a.tmps.getD t undef = v at rt
    cases rt with
    | clo _ _ vs hl hr =>
      match vs, hl, hr with
      | [v0], _, hr => exact ⟨v0, rfl, hr 0 _ _ rfl rfl⟩
  obtain ⟨l, hl, he⟩ := hI.loc hk
  obtain ⟨g, cap, hp, rfl⟩ : ∃ g cap, l.place = some (g, cap) ∧ v0 = .pointer (some ⟨g, 0, none⟩) := by
    cases r0 with
    | optr _ _ _ _ l2 _ hl2 hv2 hh ho =>
      rw [hl] at hl2
      cases hl2
      obtain ⟨g, cap, h1, h2⟩ := hh he.ver.symm
      exact ⟨g, cap, h1, by simpa using h2⟩
  obtain ⟨cur, ty2, hh, _, _, _, hcur, _⟩ := he.there g cap hp
  obtain ⟨sv, hsv, rsv⟩ := hcur 0 (.p (.lst (es.map .str))) 0 (.p (.lst (es.map .str))) rfl rfl
  simp only [Nat.zero_mul, Nat.zero_add] at hsv
  have hcell : w.cell? ⟨g, 0, none⟩ = some sv := by
    unfold World.cell?
    simp [hh, hsv]
  obtain ⟨c1, e1, s1, i1', pm⟩ := hI.freeze1 kb
  have hpr : c1.prot g 0 = some sv := (pm _ _ _ _ hk (by rw [e1]; exact hl) hp 0 (by simp)).trans hcell
  have psv : PRep c1.prot (.lst (es.map .str)) sv := by
    cases rsv with
    | p _ _ h => exact h.mono s1.prot
  have sim1 : Sim n c1 fr a := hs.step s1
  refine wp_mono (range_sound hT hg i1' (m := 5) (lb := #[.pointer (some ⟨g, 0, none⟩)]) hv0 (enters_of Tryz.func111 (by kernel_rfl) rfl) (encs := plEnc (M := M)) (fun x => rfl)
    (back_stops (encs := plEnc (M := M)) (plAt M es) 5 g es sv c1.prot hlen (fun k s hks => by
      have := plAt_val hks (hes s (List.mem_of_getElem? hks))
      unfold plEnc
      rw [this]) hpr psv w (fun b o v hv => ⟨i1'.prot b o v hv, i1'.prot_lt hv⟩))
    (plFr fr p1 p2 i1 i2) (plAct a p1 p2 i1 i2) (fun x => ⟨?_, ?_⟩) hassign I h0 hpl hb
    (Q := fun e a2 w2 => e = .normal ∧ ∃ D fr2 H2 c2, a2.defers = [{ target := .collected D, args := #[] }] ∧ Step c1 w c2 w2 ∧ Inv base c2 H2 w2 ∧ Sim n c2 fr2 a2 ∧
        w2.heap[D]? = some (.deferred (some [])) ∧ w.heap.size ≤ D ∧ vc T (lowCode Tryz.prog gl n tail) (retQ T rs Q) fr2 H2) ?_) ?_
  · have hstr : Rep c1 (.p (.str x.1.2)) (.string ⟨x.1.2.toArray⟩) := .p _ _ (.str _ (Nat.le_trans x.2 hM))
    exact (((sim1.put (.p _ _ (.int _ _)) (some p1)).put hstr (some p2)).put (.p _ _ (.int _ _)) (some i1)).put hstr (some i2)
  · exact hd
  · intro xs H' D c' w' hS hi hD st iv hK
    subst hS
    exact ⟨rfl, D, fr, H', c', by simp [hd], st, iv, sim1.step st, hK, hD, hq H' hi⟩
  · rintro e a2 w2 ⟨rfl, D, fr2, H2, c2, h1, h2, h3, h4, h5, h6, h7⟩
    exact ⟨rfl, D, fr2, H2, c2, h1, s1.trans h2, h3, h4, h5, h6, h7⟩
end Go.Proofs.YtgdpephlpdonnaaGreatDoor

/-
  nat: a number's numeral (Text).
-/
namespace Go.Proofs.YtgdpephlpdonnaaGreatDoor
open Go Go.Abs Go.Limbs
variable {base : Prot}
set_option maxRecDepth 20000
attribute [local irreducible] vc
attribute [local simp] pureS touchV freezeL fuel shiftV u64
theorem chunks_length : ∀ (k n : Nat), n < big ^ k → (chunks n).length ≤ k
  | 0, n, h => by
    have : n = 0 := by simpa using h
    subst this
    rw [chunks_zero]; simp
  | k + 1, n, h => by
    by_cases h0 : n = 0
    · subst h0; rw [chunks_zero]; simp
    · rw [chunks_pos h0]
      have := chunks_length k (n / big) (Nat.div_lt_of_lt_mul (by rw [Nat.pow_succ] at h; rw [Nat.mul_comm]; exact h))
      simp only [List.length_cons]
      omega
theorem big_room : B ^ 64 < big ^ 65 := by decide +kernel
def sText : List PVal → Option PVal
  | [.lst xs] => match decU xs with
    | some a => some (.str (if okL a then Lib.decDigits (val a) else []))
    | none => none
  | _ => none
theorem sText_num {a : Nat} (h : len a ≤ 64) : sText [.lst ((limbs a).map u64)] = some (.str (Lib.decDigits a)) := by
  have : okL (limbs a) = true := by rw [okL_num]; exact decide_eq_true h
  simp only [sText, decU_map (wf_limbs a), this, if_true, val_limbs]
/-! ### The parts of the body -/
noncomputable def b18 : Code := (Tryz.f38.body).getD .skip
noncomputable def c0 : Code := seqL b18
noncomputable def c1 : Code := seqL (seqR b18)
noncomputable def c2 : Code := seqL (seqR (seqR b18))
noncomputable def c3 : Code := seqL (seqR (seqR (seqR b18)))
noncomputable def c4 : Code := seqL (seqR (seqR (seqR (seqR b18))))
noncomputable def c5 : Code := seqL (seqR (seqR (seqR (seqR (seqR b18)))))
noncomputable def c6 : Code := seqL (seqR (seqR (seqR (seqR (seqR (seqR b18))))))
noncomputable def cT : Code := seqR (seqR (seqR (seqR (seqR (seqR (seqR b18))))))
noncomputable def cR : Code := seqL c6
def blkC : Code → Code
  | .block _ c => c
  | c => c
def rngA : Code → Code
  | .rangeFunc _ _ a _ => a
  | c => c
def rngB : Code → Code
  | .rangeFunc _ _ _ b => b
  | c => c
noncomputable def cA : Code := rngA (blkC (seqR c6))
noncomputable def cB : Code := rngB (blkC (seqR c6))
theorem body18 : Tryz.f38.body = some (seqs [c0, c1, c2, c3, c4, c5] ((cR.seq (.block 2 (.rangeFunc (.tmp 28) #[29, 30] cA cB))).seq cT)) := by kernel_rfl
def L18 : LCode := lf38.body
def l0 : LCode := lseqL L18
def l1 : LCode := lseqL (lseqR L18)
def l2 : LCode := lseqL (lseqR (lseqR L18))
def l4 : LCode := lseqL (lseqR (lseqR (lseqR (lseqR L18))))
def l5 : LCode := lseqL (lseqR (lseqR (lseqR (lseqR (lseqR L18)))))
def l6 : LCode := lseqL (lseqL (lseqR (lseqR (lseqR (lseqR (lseqR (lseqR L18)))))))
def lT : LCode := lseqR (lseqR (lseqR (lseqR (lseqR (lseqR (lseqR L18))))))
theorem pre_low : [c0, c1, c2, c3, c4, c5].map (lowCode Tryz.prog gl0 Tryz.f38.ntmps) = [l0, l1, l2, lf38_B0, l4, l5] := by kernel_rfl
theorem r_low : lowCode Tryz.prog gl0 Tryz.f38.ntmps cR = l6 := by kernel_rfl
theorem t_low : lowCode Tryz.prog gl0 Tryz.f38.ntmps cT = lT := by kernel_rfl
def lB : LCode := .block 3 (
   .seq (
    .seq (
     .region [
       ⟨(some 31), none, .mov (.tmp 6)⟩,
       ⟨(some 32), none, .load 1 false (.tmp 3)⟩,
       ⟨(some 33), none, .len (.tmp 32)⟩,
       ⟨(some 34), none, .bin .sub (.tmp 33) (.cst (.p (.int .i64 1)))⟩,
       ⟨(some 35), none, .bin .lss (.tmp 31) (.tmp 34)⟩]) (
     .cond (.tmp 35) (
      .region [
        ⟨(some 36), none, .mov (.tmp 7)⟩,
        ⟨(some 37), none, .lenS (.tmp 36)⟩,
        ⟨(some 38), none, .bin .sub (.cst (.p (.int .i64 19))) (.tmp 37)⟩,
        ⟨(some 39), none, .call 69 [(.cst (.p (.str [48]))), (.tmp 38)]⟩,
        ⟨(some 40), none, .call 86 [(.tmp 5), (.tmp 39)]⟩]) (
      .skip))) (
    .region [
      ⟨(some 41), none, .mov (.tmp 7)⟩,
      ⟨(some 42), none, .call 86 [(.tmp 5), (.tmp 41)]⟩]))
theorem b_low : lowCode Tryz.prog gl0 Tryz.f38.ntmps cB = lB := by kernel_rfl
theorem b_plain : plainCode cB = true := by kernel_rfl
/-! ### What it calls -/
def Ttx : Tab := ((((((Tab.none.with 76 (pureS sValid)).with 77 (pureS sByLimb)).with 84 (pureS sFormat)).with 85 sBack).with 69 (pureS sRep)).own 86 wsM).own 87 (strM 106 5)
theorem Ttx_ok : TabOk Tryz.prog base2 Ttx := Tab.own_ok (Tab.own_ok (Tab.with_ok (Tab.with_ok (Tab.with_ok (Tab.with_ok (Tab.with_ok Tab.none_ok valid_ok) byLimb_ok) format_ok) backw_ok) rep_ok) ws_ok) bstr_ok
theorem Ttx_fns : Ttx.fn 76 = pureS sValid ∧ Ttx.fn 77 = pureS sByLimb ∧ Ttx.fn 84 = pureS sFormat ∧ Ttx.fn 85 = sBack ∧ Ttx.fn 69 = pureS sRep := ⟨rfl, rfl, rfl, rfl, rfl⟩
theorem Ttx_ws (a : List AVal) (H : Heap) : Ttx.mu 86 a H = wsM a H := (rfl)
theorem Ttx_str (a : List AVal) (H : Heap) : Ttx.mu 87 a H = strM 106 5 a H := (rfl)
theorem Ttx_none (a : List AVal) (H : Heap) : Ttx.mu 76 a H = none ∧ Ttx.mu 77 a H = none ∧ Ttx.mu 84 a H = none ∧ Ttx.mu 85 a H = none ∧ Ttx.mu 69 a H = none := ⟨rfl, rfl, rfl, rfl, rfl⟩
theorem mapO_str (H : Heap) (n : Nat) : ∀ l : List (List UInt8), mapO (resolveV H n) (l.map fun s => .p (.str s)) = some (l.map PVal.str)
  | [] => rfl
  | x :: r => by simp [mapO, resolveV, mapO_str H n r]
theorem mapO_str_take (H : Heap) (n k : Nat) (l : List (List UInt8)) : mapO (resolveV H n) (List.take k (l.map fun s => .p (.str s))) = some (List.take k (l.map PVal.str)) := by rw [← List.map_take, mapO_str, List.map_take]
theorem touch_str (H : Heap) (n : Nat) : ∀ l : List (List UInt8), (l.map fun s => (AVal.p (.str s))).flatMap (touchV H n) = []
  | [] => rfl
  | x :: r => by rw [List.map_cons, List.flatMap_cons, touch_str H n r]; cases n <;> simp [touchV]
theorem touch_str_take (H : Heap) (n k : Nat) (l : List (List UInt8)) : (List.take k (l.map fun s => (AVal.p (.str s)))).flatMap (touchV H n) = [] := by rw [← List.map_take, touch_str]
/-- The box of the pieces. -/
def IsParts (H : Heap) (es : List (List UInt8)) : Prop :=
  ∃ x, H[0]? = some ⟨1, 0, false, [x], 47⟩ ∧ ((es = [] ∧ x = .tight []) ∨ ∃ j ver, 0 < j ∧ x = .own j 0 es.length ver ∧ H[j]? = some ⟨1, ver, false, es.map (fun s => .p (.str s)), 9⟩)
theorem app_parts {H1 : Heap} {es : List (List UInt8)} {s : List UInt8} {x : AVal} (hl : 0 < H1.length) (hn : es.length ≤ 1000000)
    (hx : (es = [] ∧ x = .tight []) ∨ ∃ j ver, 0 < j ∧ x = .own j 0 es.length ver ∧ H1[j]? = some ⟨1, ver, false, es.map (fun s => .p (.str s)), 9⟩) :
    ∃ j v H2, appV 1 16 9 x [.p (.str s)] H1 = some (.own j 0 (es.length + 1) v, H2) ∧ 0 < j ∧ H2[j]? = some ⟨1, v, false, (es ++ [s]).map (fun s => .p (.str s)), 9⟩ ∧ H1.length ≤ H2.length ∧ H2[0]? = H1[0]? := by
  have hy : [(AVal.p (.str s))].all (fun y => y.cells.length == 1 && y.cells.all AVal.isCell) = true := rfl
  have hm : maxLen = 9223372036854775807 := rfl
  rcases hx with ⟨rfl, rfl⟩ | ⟨j, ver, hj0, rfl, hj⟩
  · refine ⟨H1.length, 0, H1 ++ [⟨1, 0, false, [.p (.str s)], 9⟩], ?_, hl, by simp, by simp, by rw [List.getElem?_append_left hl]⟩
    unfold appV
    rw [if_pos ⟨hy, by decide⟩]
    simp only
    rw [if_pos (by simp [hm])]
    simp
  · have hjl := (List.getElem?_eq_some_iff.1 hj).1
    refine ⟨j, ver + 1, H1.set j ⟨1, ver + 1, false, es.map (fun s => .p (.str s)) ++ [.p (.str s)], 9⟩, ?_, hj0, by simp [hjl], by simp, by rw [List.getElem?_set_ne (by omega)]⟩
    unfold appV
    rw [if_pos ⟨hy, by decide⟩]
    simp only
    rw [hj]
    simp only
    rw [if_pos (by simp; omega)]
    simp
/-- The box of so many pieces. -/
def HasParts (H : Heap) (b L : Nat) : Prop := ∃ j ver e, H[0]? = some ⟨1, 0, false, [.own j 0 L ver], 47⟩ ∧ j < b ∧ H[j]? = some e ∧ e.ver = ver
/-- A new builder. -/
def NewBld (H : Heap) (b : Nat) : Prop := H[b]? = some (bldE 106 (.p .nilp) (.tight []))
theorem NewBld.is {H : Heap} {b : Nat} (h : NewBld H b) : IsBld H b [] := ⟨_, _, h, .inl rfl, .inl ⟨rfl, rfl⟩⟩
theorem freeze1_ne {H : Heap} {k q : Nat} (h : q ≠ k) : (freeze1 H k)[q]? = H[q]? := by
  unfold freeze1
  split
  · rw [List.getElem?_set_ne (Ne.symm h)]
  · rfl
theorem freeze1_len (H : Heap) (k : Nat) : (freeze1 H k).length = H.length := by
  unfold freeze1
  split <;> simp
theorem freeze1_at {H : Heap} {k : Nat} {e : Ent} (h : H[k]? = some e) : (freeze1 H k)[k]? = some ⟨e.size, e.ver, true, e.elems, e.ty⟩ := by
  unfold freeze1
  rw [h]
  simp [(List.getElem?_eq_some_iff.1 h).1]
theorem HasParts.freeze {H : Heap} {b L k : Nat} (h : HasParts H b L) (hk : b ≤ k) (hb : 0 < b) : HasParts (freeze1 H k) b L := by
  obtain ⟨j, ver, e, h1, h2, h3, h4⟩ := h
  exact ⟨j, ver, e, by rw [freeze1_ne (by omega)]; exact h1, h2, by rw [freeze1_ne (by omega)]; exact h3, h4⟩
theorem HasParts.keep {H H' : Heap} {b L : Nat} (h : HasParts H b L) (hb : 0 < b) (hk : ∀ q, q < b → H'[q]? = H[q]?) : HasParts H' b L := by
  obtain ⟨j, ver, e, h1, h2, h3, h4⟩ := h
  exact ⟨j, ver, e, by rw [hk 0 hb]; exact h1, h2, by rw [hk j h2]; exact h3, h4⟩
theorem piece_len {L k : Nat} {s : List UInt8} (h : s.length ≤ 19) : (piece L k s).length ≤ 19 := by
  unfold piece padS
  split
  · simp; omega
  · exact h
def outOf (L : Nat) (pre : List (Pl 19)) : List UInt8 := (pre.map fun x => piece L x.1.1 x.1.2).flatten
theorem outOf_len (L : Nat) : ∀ pre : List (Pl 19), (outOf L pre).length ≤ 19 * pre.length
  | [] => by simp [outOf]
  | x :: r => by
    have h := outOf_len L r
    have h2 := piece_len (L := L) (k := x.1.1) x.2
    unfold outOf at h ⊢
    simp only [List.map_cons, List.flatten_cons, List.length_append, List.length_cons]
    omega
theorem outOf_snoc (L : Nat) (pre : List (Pl 19)) (x : Pl 19) : outOf L (pre ++ [x]) = outOf L pre ++ piece L x.1.1 x.1.2 := by simp [outOf]
theorem outOf_all {es : List (List UInt8)} (h : ∀ s ∈ es, s.length ≤ 19) (h0 : 0 < es.length) : outOf es.length (upto (fun j => plAt 19 es (es.length - 1 - j)) es.length) = joinT es := by
  rw [← join_pieces es 0 es.length (by omega) h0]
  unfold outOf upto
  rw [List.map_map]
  congr 1
  apply List.map_congr_left
  intro j hj
  have hj : j < es.length := List.mem_range.1 hj
  have hk : es.length - 1 - j < es.length := by omega
  have hg : es[es.length - 1 - j]? = some es[es.length - 1 - j] := List.getElem?_eq_getElem hk
  have := plAt_val (M := 19) hg (h _ (List.getElem_mem hk))
  simp only [Function.comp, this, Nat.zero_add, List.getD, hg, Option.getD_some]
theorem text_loop {n : Nat} {fr : AFr} {H : Heap} {R : LExit → AFr → Heap → Prop} (hn : len n ≤ 64) (hfr0 : fr 0 = .p (.lst ((limbs n).map u64))) (hfr3 : fr 3 = .optr 0 0 0 0) (hH : H = [⟨1, 0, false, [.tight []], 47⟩])
    (hR : ∀ (fr' : AFr) (H' : Heap), fr' 3 = .optr 0 0 0 0 → IsParts H' (chunks n) → R .normal fr' H') : vc Ttx lf38_B0 R fr H := by
  have hcn : (chunks n).length ≤ 65 := chunks_length 65 n (Nat.lt_trans (Nat.lt_of_lt_of_le (lt_len n) (Bpow_le hn)) big_room)
  simp only [lf38_B0, vc_block]
  refine loop_ind (fun fr H => ∃ (m : Nat) (es : List (List UInt8)), len m ≤ 100000 ∧ es ++ chunks m = chunks n ∧ IsParts H es ∧ fr 0 = .p (.lst ((limbs m).map u64)) ∧ fr 3 = .optr 0 0 0 0)
    (fun fr _ => match fr 0 with | .p (.lst es) => (match decN es with | some n => n | none => 0) | _ => 0) ⟨n, [], by omega, by simp, ⟨.tight [], by rw [hH]; rfl, .inl ⟨rfl, rfl⟩⟩, hfr0, hfr3⟩ ?_
  rintro fr H ⟨m, es, hm, hes, hP, h0, h3⟩
  have lm : (limbs m).length = len m := rfl
  by_cases hz : m = 0
  · subst hz
    rw [chunks_zero, List.append_nil] at hes
    subst hes
    simp [h0, limbs_zero]
    exact hR _ _ (by simp [h3]) hP
  · have hlm : len m ≠ 0 := fun e => hz (len_eq_zero.1 e)
    have hlI : (0 : Int) < len m := by omega
    have hlN : 0 < len m := by omega
    have hby := sByLimb_num (k := big) hm big_pos (by decide)
    have hfm := sFormat_nat (u := m % big) (Nat.lt_trans (Nat.mod_lt _ big_pos) (by decide))
    have hq : len (m / big) ≤ 100000 := Nat.le_trans (len_mono (Nat.div_le_self m big)) hm
    have hd1 := decN_num hm
    have hd2 := decN_num hq
    have hch := chunks_pos hz
    have hel : es.length < 65 := by
      rw [hch] at hes
      have := congrArg List.length hes
      simp only [List.length_append, List.length_cons] at this
      omega
    obtain ⟨x, hx0, hx⟩ := hP
    obtain ⟨g, hg⟩ : ∃ t : Ent, t = ⟨1, 0, false, [.p (.str (Lib.decDigits (m % big)))], 9⟩ := ⟨_, rfl⟩
    have hH0 : 0 < H.length := (List.getElem?_eq_some_iff.1 hx0).1
    have hx1 : (H ++ [g])[0]? = some ⟨1, 0, false, [x], 47⟩ := by rw [List.getElem?_append_left hH0]; exact hx0
    obtain ⟨j, v, H2, happ, hj0, hj, hl2, hH2⟩ := app_parts (H1 := H ++ [g]) (es := es) (s := Lib.decDigits (m % big)) (x := x) (by simp) (by omega) (by
      rcases hx with h | ⟨j, ver, h1, h2, h3⟩
      · exact .inl h
      · exact .inr ⟨j, ver, h1, h2, by rw [List.getElem?_append_left (List.getElem?_eq_some_iff.1 h3).1]; exact h3⟩)
    rw [hx1] at hH2
    have hlt : m / big < m := Nat.div_lt_self (Nat.pos_of_ne_zero hz) (by decide)
    obtain ⟨q, hqq⟩ : ∃ t, t = m / big := ⟨_, rfl⟩
    obtain ⟨r, hrr⟩ : ∃ t, t = m % big := ⟨_, rfl⟩
    rw [← hqq] at hby hd2 hq hlt hch
    rw [← hrr] at hby hfm hg happ hj hch
    obtain ⟨dr, hdr⟩ : ∃ t, t = Lib.decDigits r := ⟨_, rfl⟩
    rw [← hdr] at hfm hg happ hj hch
    have hbig : (big : Int) = 10000000000000000000 := rfl
    rw [hbig] at hby
    have hgg : g.elems = [.p (.str dr)] ∧ g.size = 1 ∧ g.ver = 0 ∧ g.ty = 9 := by rw [hg]; exact ⟨rfl, rfl, rfl, rfl⟩
    rw [hg] at happ
    have hj0' : ¬ 0 = j := by omega
    have hxs : x = .tight [] ∨ ∃ j' ver', x = .own j' 0 es.length ver' := by
      rcases hx with ⟨-, h⟩ | ⟨j', ver', -, h, -⟩
      · exact .inl h
      · exact .inr ⟨j', ver', h⟩
    have hH2l : 0 < H2.length := by simp at hl2; omega
    have hfin : IsParts (H2.set 0 ⟨1, 0, false, [.own j 0 (es.length + 1) v], 47⟩) (es ++ [dr]) :=
      ⟨_, List.getElem?_set_self hH2l, .inr ⟨j, v, hj0, by simp, by rw [List.getElem?_set_ne (by omega)]; exact hj⟩⟩
    have hes' : es ++ [dr] ++ chunks q = chunks n := by rw [← hes, hch]; simp
    clear hx hgg hH0 hx1
    have hH0 : 0 < H.length := (List.getElem?_eq_some_iff.1 hx0).1
    rcases hxs with rfl | ⟨j', ver', rfl⟩
    all_goals
      simp [h0, h3, lm, hlI, hlN, hby, hd1, hd2, vc_regionW, Ttx_none, Ttx_fns, hx0]
      refine ⟨[], ?_⟩
      simp [hfm, Ttx_none, Ttx_fns, h3, hx0, happ, hH2, fillS, -appV]
      refine ⟨hH0, fun k hk => List.getElem?_append_left hk, ⟨q, hq, es ++ [dr], hes', hfin, rfl⟩, ?_⟩
      rw [hd2]
      exact hlt
theorem cA_eq : cA = .seq (.region 12 #[{ dst := some 6, op := .assign (.tmp 29), type := 3, pos := "nat.go:362", after := #[], guard := none }] false) (.region 13 #[{ dst := some 7, op := .assign (.tmp 30), type := 9, pos := "nat.go:362", after := #[], guard := none }] false) := by kernel_rfl
theorem res18 : mapO (lowRes Tryz.prog Tryz.f38.ntmps) Tryz.f38.results.toList = some lf38.results := by kernel_rfl
attribute [local go_sem] Oper.semAt_some in
theorem assign18 {a : Act} (hs : a.tmps.size = 44) (hd : a.defers = []) (l : Nat) (x : Pl 19) (W : World) (K : Act → World → Prop) (hK : K (plAct a 29 30 6 7 x) W) :
    cA.wpIn (WR l) 4 Tryz.prog (Exit.then K (fun _ _ _ => False)) { tmps := ((#[29, 30].zip (plEnc x)).foldl (fun t (p, v) => t.setIfInBounds p v) a.tmps), defers := [] } W := by
  rw [cA_eq]
  obtain ⟨tm, df⟩ := a
  simp only at hs hd
  subst hd
  have e : ((#[29, 30].zip (plEnc x)).foldl (fun t (p, v) => t.setIfInBounds p v) tm) = (tm.setIfInBounds 29 (.int .i64 (x.1.1 : Int))).setIfInBounds 30 (.string ⟨x.1.2.toArray⟩) := by
    simp [plEnc]
  have g1 : ((tm.setIfInBounds 29 (.int .i64 (x.1.1 : Int))).setIfInBounds 30 (.string ⟨x.1.2.toArray⟩)).getD 29 undef = .int .i64 (x.1.1 : Int) := by
    simp [Array.getD, hs]
  have g2 : (((tm.setIfInBounds 29 (.int .i64 (x.1.1 : Int))).setIfInBounds 30 (.string ⟨x.1.2.toArray⟩)).setIfInBounds 6 (.int .i64 (x.1.1 : Int))).getD 30 undef = .string ⟨x.1.2.toArray⟩ := by
    simp [Array.getD, hs]
  rw [e]
  gi_wp2
  exact hK
theorem text_ok : FnOk Tryz.prog base2 38 (pureS sText) := by
  refine ⟨goodFn_of_low low38, fun args r E hs c w vs hI hr => ?_⟩
  unfold pureS at hs
  cases hx : sText args with
  | none => rw [hx] at hs; cases hs
  | some x =>
  rw [hx] at hs
  cases hs
  have hloc : c.locs = [] := List.length_eq_zero_iff.1 (by rw [hI.len]; rfl)
  have hfit : ∀ y ∈ args, Fits y := fun y hy => by
    obtain ⟨j, hj, rfl⟩ := List.getElem_of_mem hy
    have hlen := hr.1
    simp only [List.length_map] at hlen
    have := hr.2 j (.p args[j]) (vs[j]'(by omega)) (by simp) (by simp [hlen, hj])
    cases this with
    | p _ _ hp => exact ⟨_, _, hp⟩
  unfold sText at hx
  split at hx
  case h_2 => cases hx
  rename_i xs
  split at hx
  case h_2 => cases hx
  rename_i a ha
  cases hx
  obtain ⟨rfl, wa⟩ := decU_some ha
  have va := sValid_list wa
  cases oa : okL a with
  | false =>
    rw [oa] at va
    refine (calls_of_vc hmix Ttx_ok globNone low38 (Q := fun r H => resolveV H fuel r = some (.str [])) (by simp [lf38]) hI hr (fun _ => ?_)).mono fun e w' ⟨v, r, H', c', he, hq, st, i', rp⟩ => ?_
    · simp [lf38, retQ, va, Ttx_none, Ttx_fns]
    · obtain ⟨c1, s1, i1, r1⟩ := let_go hloc st i' rp hq
      exact ⟨v, c1, he, s1, i1, r1⟩
  | true =>
  rw [oa] at va
  obtain ⟨n, rfl, ln⟩ := okL_true oa
  rw [val_limbs]
  by_cases hz : n = 0
  · subst hz
    refine (calls_of_vc hmix Ttx_ok globNone low38 (Q := fun r H => resolveV H fuel r = some (.str (Lib.decDigits 0))) (by simp [lf38]) hI hr (fun _ => ?_)).mono fun e w' ⟨v, r, H', c', he, hq, st, i', rp⟩ => ?_
    · rw [show Lib.decDigits 0 = [48] from Lib.decDigits_one (by decide)]
      simp [lf38, va, Ttx_none, Ttx_fns]
      refine text_loop (n := 0) ln (by simp) (by simp) (by simp) fun fr' H' f3 ⟨y, hy0, hy⟩ => ?_
      rw [chunks_zero] at hy
      rcases hy with ⟨-, rfl⟩ | ⟨j, ver, -, rfl, hj⟩
      · simp [f3, hy0, retQ]
      · simp only [List.length_nil, List.map_nil] at hj hy0
        simp [f3, hy0, hj, retQ]
    · obtain ⟨c1, s1, i1, r1⟩ := let_go hloc st i' rp hq
      exact ⟨v, c1, he, s1, i1, r1⟩
  · have hcn : (chunks n).length ≤ 65 := chunks_length 65 n (Nat.lt_trans (Nat.lt_of_lt_of_le (lt_len n) (Bpow_le ln)) big_room)
    obtain ⟨es, hes⟩ : ∃ t, t = chunks n := ⟨_, rfl⟩
    have hec := chunks_len n
    have hjoin := joinT_chunks n hz
    have hne : 0 < es.length := by rw [hes, chunks_pos hz]; simp
    rw [← hes] at hcn hec hjoin
    refine (calls_of_range (T := Ttx) hmix Ttx_ok globNone Tryz.func38 body18 res18 (args := [(.lst ((limbs n).map u64) : PVal)].map AVal.p) (H := []) (Q := fun r H => resolveV H fuel r = some (.str (Lib.decDigits n))) (by simp [Tryz.ntmps38]) hI hr
      (fun fr H => ∃ b, fr 3 = .optr 0 0 0 0 ∧ fr 5 = .optr b 0 0 0 ∧ 0 < b ∧ NewBld H b ∧ HasParts H b es.length ∧ fr 28 = .clo 111 [.optr (b + 1) 0 0 0] ∧
        ∃ e, H[b + 1]? = some e ∧ e = ⟨1, 0, false, [.p (.lst (es.map .str))], 47⟩) ?_ ?_).mono fun e w' ⟨v, r, H', c', he, hq, st, i', rp⟩ => ?_
    · rw [pre_low, r_low]
      simp [vcs, l0, l1, l2, L18, lseqL, lseqR, lf38, va, Ttx_none, Ttx_fns]
      refine text_loop ln (by simp) (by simp) (by simp) fun fr' H' f3 hP => ?_
      rw [← hes] at hP
      refine ⟨rfl, ?_⟩
      obtain ⟨y, hy0, hy⟩ := hP
      have hL : es ≠ [] := fun e => by rw [e] at hne; simp at hne
      obtain ⟨j, ver, hj0, rfl, hj⟩ : ∃ j ver, 0 < j ∧ y = .own j 0 es.length ver ∧ H'[j]? = some ⟨1, ver, false, es.map (fun s => .p (.str s)), 9⟩ := by
        rcases hy with ⟨h, -⟩ | h
        · exact absurd h hL
        · exact h
      have hjl := (List.getElem?_eq_some_iff.1 hj).1
      have hL0 : ((es.length : Int) == 0) = false := beq_false_of_ne (by omega)
      simp [l4, L18, lseqL, lseqR, lf38, f3, hy0, hj, hL0, hL]
      simp [l5, L18, lseqL, lseqR, lf38]
      obtain ⟨HB, hHB⟩ : ∃ t, t = H' ++ [(⟨2, 0, false, [.agg [.p .nilp, .tight []]], 106⟩ : Ent)] := ⟨_, rfl⟩
      have hB0 : HB[0]? = some ⟨1, 0, false, [.own j 0 es.length ver], 47⟩ := by rw [hHB, List.getElem?_append_left (by omega)]; exact hy0
      have hBj : HB[j]? = some ⟨1, ver, false, es.map (fun s => .p (.str s)), 9⟩ := by rw [hHB, List.getElem?_append_left hjl]; exact hj
      have hBb : HB[H'.length]? = some ⟨2, 0, false, [.agg [.p .nilp, .tight []]], 106⟩ := by rw [hHB]; simp
      have hBl : HB.length = H'.length + 1 := by rw [hHB]; simp
      rw [← hHB]
      obtain ⟨b, hb⟩ : ∃ t, t = H'.length := ⟨_, rfl⟩
      rw [← hb] at hBb hBl hjl
      clear hHB hy0 hj
      simp [l6, L18, lseqL, lseqR, lf38, f3, hB0, hBj, Ttx_none, Ttx_fns, mapO_str, mapO_str_take, touch_str, touch_str_take, sBack]
      simp only [← hb]
      have hF := freeze1_at hBj
      have hFl := freeze1_len HB j
      have hF0 : (freeze1 HB j)[0]? = _ := (freeze1_ne (H := HB) (show 0 ≠ j by omega)).trans hB0
      have hFb : (freeze1 HB j)[b]? = _ := (freeze1_ne (H := HB) (show b ≠ j by omega)).trans hBb
      obtain ⟨F, hFF⟩ : ∃ t, t = freeze1 HB j := ⟨_, rfl⟩
      rw [← hFF] at hF hFl hF0 hFb
      simp only [← hFF]
      refine ⟨by omega, ?_, ⟨j, ver, ⟨1, ver, true, es.map (fun s => .p (.str s)), 9⟩, ?_, hjl, ?_, rfl⟩, hBl, ?_⟩
      · unfold NewBld
        rw [List.getElem?_append_left (by omega)]; exact hFb
      · rw [List.getElem?_append_left (by omega)]; exact hF0
      · rw [List.getElem?_append_left (by omega)]; exact hF
      · rw [List.getElem?_append_right (by omega)]
        simp [hFl, hBl, shiftE, List.take_of_length_le]
    · rintro fr H c' w' a' ⟨b, h3, h5, hb0, hB, hP, h28, e, hbk, rfl⟩ st iv sim hd
      have hsz : a'.tmps.size = 44 := sim.1
      refine back_range (M := 19) Ttx_ok globNone (by decide) iv sim hd (by rw [Tryz.ntmps38]; decide) h28 hbk (by omega) hec (assign18 hsz hd) (fun pre H' => IsBld H' b (outOf es.length pre) ∧ HasParts H' b es.length) ⟨?_, hP.freeze (by omega) hb0⟩ b_plain (fun pre x H' ⟨q1, q2⟩ hl => ?_) (fun H' ⟨q1, q2⟩ => ?_)
      · have : NewBld (freeze1 H (b + 1)) b := by unfold NewBld; rw [freeze1_ne (by omega)]; exact hB
        exact this.is
      · rw [b_low]
        obtain ⟨⟨k, s⟩, hs⟩ := x
        have hs : s.length ≤ 19 := hs
        have hol := outOf_len es.length pre
        rw [outOf_snoc]
        obtain ⟨j, ver, e, p1, p2, p3, p4⟩ := id q2
        obtain ⟨L, hL⟩ : ∃ t, t = es.length := ⟨_, rfl⟩
        rw [← hL] at hol hl p1 q1 q2 hcn ⊢
        have hL1 : 0 < L := by omega
        have w1 : IntKind.i64.wrap ((L : Int) - 1) = ((L - 1 : Nat) : Int) := by rw [IntWalk.i64_in _ (by omega)]; omega
        by_cases hk : k + 1 < L
        · obtain ⟨z, hz⟩ : ∃ t, t = 19 - s.length := ⟨_, rfl⟩
          have hk1 : (k : Int) < ((L - 1 : Nat) : Int) := by omega
          have hk2 : k < L - 1 := by omega
          have w2 : IntKind.i64.wrap (19 - (s.length : Int)) = (z : Int) := by rw [IntWalk.i64_in _ (by omega)]; omega
          have hrp : sRep [.str [48], .int .i64 z] = some (.str (noughts z)) := by
            simp only [sRep]
            rw [if_pos ⟨by trivial, by omega, by omega⟩]
            simp
          obtain ⟨H1, e1, b1, k1, -⟩ := ws_bld (s := noughts z) q1 (by simp [noughts]; omega)
          obtain ⟨H2, e2, b2, k2, -⟩ := ws_bld (s := s) b1 (by simp [noughts]; omega)
          have hp : piece L k s = noughts z ++ s := by unfold piece padS noughts; rw [if_pos hk, hz]
          rw [List.append_assoc, ← hp] at b2
          have hpp := q2.keep hb0 (fun q hq => (k2 q hq).trans (k1 q hq))
          simp [lB, plFr, h3, h5, p1, p3, p4, w1, w2, hk1, hk2, hrp, e1, e2, Ttx_none, Ttx_fns, Ttx_ws]
          exact ⟨b2, hpp⟩
        · have hk1 : ¬ (k : Int) < ((L - 1 : Nat) : Int) := by omega
          obtain ⟨H2, e2, b2, k2, -⟩ := ws_bld (s := s) q1 (by omega)
          have hp : piece L k s = s := by unfold piece; rw [if_neg hk]
          rw [← hp] at b2
          have hpp := q2.keep hb0 k2
          simp [lB, plFr, h3, h5, p1, p3, p4, w1, hk1, e2, Ttx_none, Ttx_fns, Ttx_ws]
          exact ⟨b2, hpp⟩
      · rw [t_low]
        rw [outOf_all hec hne, hjoin] at q1
        obtain ⟨H2, e2, -, -⟩ := str_bld q1
        simp [lT, L18, lseqL, lseqR, lf38, h5, e2, Ttx_str, retQ]
    · obtain ⟨c1, s1, i1, r1⟩ := let_go hloc st i' rp hq
      exact ⟨v, c1, he, s1, i1, r1⟩
end Go.Proofs.YtgdpephlpdonnaaGreatDoor
