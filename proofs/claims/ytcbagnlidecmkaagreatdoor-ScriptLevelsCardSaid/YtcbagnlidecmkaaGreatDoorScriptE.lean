/-
  What strconv.Itoa and script.Text compute. No conditions beyond the lemmas' own hypotheses.
-/
import Derived.Test.YtcbagnlidecmkaaGreatDoorScriptD
import Derived.Test.YtcbagnlidecmkaaGreatDoorNatS
import Derived.Test.YtcbagnlidecmkaaGreatDoorScriptL
set_option linter.unusedSimpArgs false
set_option linter.unnecessarySimpa false
set_option linter.unusedVariables false
set_option linter.constructorNameAsVariable false

/-
 strconv.Itoa at the numbers of levels.
-/
namespace Go.Proofs.YtcbagnlidecmkaaGreatDoor
open Go Go.Shelf Go.RowKit Go.Sort Go.Lib Go.Abs
open Nn (numDigits_ok calls_of_fn)
theorem holds_heap {w w' : World} {blk off : Nat} {d : Array UInt8} (h : Holds (fun (b : UInt8) => Value.int .u8 (b.toNat : Int)) w blk off d) (e : w'.heap[blk]? = w.heap[blk]?) : Holds (fun (b : UInt8) => Value.int .u8 (b.toNat : Int)) w' blk off d := by
 intro j hj
 rw [World.cell?_of_block (a := ⟨blk, off + j, none⟩) e, World.frozen?_of_block (a := ⟨blk, off + j, none⟩) e]
 exact h j hj
theorem below_digits {B : Nat} {w W : World} {g off n : Nat} {d : Array UInt8} (h : Below B w W) (hg : B ≤ g) : Below B w ((putRow (fun (b : UInt8) => Value.int .u8 (b.toNat : Int)) W g off d).drewN n) := by
 refine ⟨h.os, h.tape, h.output, ?_, fun k hk => ?_⟩
 ·show w.heap.size ≤ (W.heap.modify g _).size
  rw [Array.size_modify]
  exact h.size
 ·show (W.heap.modify g _)[k]? = _
  rw [Array.getElem?_modify, if_neg (by omega)]
  exact h.block k hk
set_option maxHeartbeats 6400000 in
set_option maxRecDepth 100000 in
theorem formatInt_walk (u : Nat) (hu : u ≤ 1000) (w : World) (hb : Prot.le Nn.base2 (allCells w)) :
  Calls Tryz.prog 78 #[.int .i64 u, .int .i64 10] w fun e w' => e = .returned (.string ⟨(Lib.decDigits u).toArray⟩) ∧ Below w.heap.size w w' := by
 by_cases hs : u < 100
 ·have hsI : (u : Int) < 100 := by omega
  have hs0 : (0 : Int) ≤ u := by omega
  go_enter Tryz.func78, Tryz.ntmps78
  go_wp2_with (go_at_call 92; refine (Any.internal_strconv_small Tryz.lays283 u hs _).mono ?_; rintro e w' ⟨rfl, rfl⟩)
  go_ret
  exact ⟨rfl, Below.refl _ _⟩
 ·have hu1 : 1 ≤ u := by omega
  have hsI : ¬ (u : Int) < 100 := by omega
  have hs0 : ¬ (u : Int) < 0 := by omega
  have hu64 : u < 18446744073709551616 := by omega
  have hwr : IntKind.u64.wrap (u : Int) = (u : Int) := by rw [IntKind.wrap_u64]; omega
  have hnd20 : Lib.nDigits u ≤ 20 := by have := Lib.numDigits_eq u hu1 hu64; split at this <;> omega
  have hb3 : Lib.nDigits u ≤ 23 := by omega
  have hnd : ∀ W : World, Prot.le Nn.base2 (allCells W) → Calls Tryz.prog 93 #[.int .u64 u] W fun e W' => e = .returned (.int .i64 (Lib.nDigits u : Nat)) ∧ Below W.heap.size W W' := fun W hW => by
   refine (calls_of_fn numDigits_ok hW (ps := [.int .u64 u]) (vs := [.int .u64 u]) rfl (fun j x v h1 h2 => ?_) (x := .int .i64 (Lib.nDigits u : Nat)) ?_).mono ?_
   ·cases j with
    | zero => simp at h1 h2; subst h1 h2; exact .int _ _
    | succ j => simp at h1
   ·show (if (1 : Int) ≤ u ∧ (u : Int).toNat < Limbs.B then _ else none) = _
    rw [if_pos ⟨by omega, by show (u : Int).toNat < 18446744073709551616; simpa using hu64⟩]
    rfl
   ·rintro e W' ⟨v, rfl, hp, hbl⟩
    cases hp
    exact ⟨rfl, hbl⟩
  have hbA : Prot.le Nn.base2 (allCells (w.alloc (.cells Lib.zeros24 141))) := fun b o v hv => (World.cell?_of_block (a := ⟨b, o, none⟩) (heap_alloc_old w _ (World.block_lt_of_cell? w _ (hb b o v hv)))).trans (hb b o v hv)
  have hal : Tryz.prog.arrayLen 141 = 24 := by simp [Program.arrayLen, Tryz.underlying141]
  have hsl1 : ∀ W, (Instr.sliceAt 141 (.pointer (some ⟨w.heap.size, 0, none⟩)) (some (.int .i64 1)) (some (.int .i64 (1 + (Lib.nDigits u : Int)))) none).run Tryz.prog W = .ok (.slice (some ⟨w.heap.size, 1, none⟩) (Lib.nDigits u) 23) W := fun W => by
   rw [run_sliceAt_array_lh W 141 ⟨w.heap.size, 0, none⟩ (by simp [Program.arrayLen, Program.elem, Tryz.underlying141]) .i64 .i64 1 (1 + (Lib.nDigits u : Int)) (by omega) (by omega) (by rw [hal]; omega)]
   go_simp
   omega
  clear hal
  have hnd1 := hnd _ hbA
  go_enter Tryz.func78, Tryz.ntmps78
  go_wp2_with (first | (go_at_call 93; refine hnd1.mono ?_; rintro e W1 ⟨rfl, hb1⟩))
  have hH0 := holds_heap (Lib.holds_zero w 141 (Lib.nDigits u) (by omega)) (hb1.block w.heap.size (by rw [World.size_alloc]; omega))
  have hfmt := Any.internal_strconv_formatBase10 Tryz.lays285 w.heap.size 1 23 u (Array.replicate (Lib.nDigits u) 0) W1 hH0 (by rw [Array.size_replicate]; exact Lib.lt_pow_nDigits u) hu64 (by rw [Array.size_replicate]; omega)
  rw [Array.size_replicate] at hfmt
  have HH0 := Lib.hid hH0
  have hb1' := Lib.hid hb1
  clear hH0 hb1 hnd1 hnd hbA
  go_at_call 94
  refine hfmt.mono ?_
  rintro e w' ⟨rfl, k, v', dk, rfl, hF⟩
  have hcv : (convert 47 9 (.slice (some ⟨w.heap.size, 1, none⟩) (Lib.nDigits u) 23)).run Tryz.prog ((putRow (fun (b : UInt8) => Value.int .u8 (b.toNat : Int)) W1 w.heap.size 1 dk).drewN k) = .ok (.string ⟨(Lib.decDigits u).toArray⟩) ((putRow (fun (b : UInt8) => Value.int .u8 (b.toNat : Int)) W1 w.heap.size 1 dk).drewN k) := by
   have h := run_convert_bytes_back (P := Tryz.prog) ((putRow (fun (b : UInt8) => Value.int .u8 (b.toNat : Int)) W1 w.heap.size 1 dk).drewN k) 47 9 5 ⟨w.heap.size, 1, none⟩ 23 (Lib.decDigits u) Tryz.underlying47 Tryz.underlying5 Tryz.underlying9 (fun j hj => by
    rw [Lib.row_is_numeral hF j hj, Lib.add_plain, World.cell?_drewN]
    exact cell?_putRow (fun (b : UInt8) => Value.int .u8 (b.toNat : Int)) _ w.heap.size 1 _ dk HH0.out (by rw [hF.size, Array.size_replicate]) j (by rw [hF.size]; rw [Lib.decDigits_length] at hj; exact hj))
   rw [Lib.decDigits_length] at h
   exact h
  go_wp2
  go_ret
  refine ⟨rfl, below_digits ?_ (Nat.le_refl _)⟩
  have h1 : Below w.heap.size w (w.alloc (.cells Lib.zeros24 141)) := (Below.refl _ w).alloc (Nat.le_refl _) _
  exact h1.trans (hb1'.out.mono (by rw [World.size_alloc]; omega))
end Go.Proofs.YtcbagnlidecmkaaGreatDoor

/-
 strconv.Itoa at the numbers of levels: the contract.
-/
namespace Go.Proofs.YtcbagnlidecmkaaGreatDoor
open Go Go.Abs Go.Lex Go.Sexp
set_option maxRecDepth 20000
attribute [local simp] pureS touchV freezeL fuel shiftV
variable {m : Int}
theorem dig_itoa {n : Nat} (h : n ≤ 1000) : Lib.decDigits n = itoaK n := by
 unfold itoaK
 rw [Lib.decDigits]
 by_cases h1 : n < 10
 ·rw [dif_pos h1, if_pos h1]
 rw [dif_neg h1, if_neg h1, Lib.decDigits]
 by_cases h2 : n < 100
 ·rw [dif_pos (by omega), if_pos h2]; rfl
 rw [dif_neg (by omega), if_neg h2, Lib.decDigits]
 by_cases h3 : n < 1000
 ·rw [dif_pos (by omega), if_pos h3]
  have : n / 10 / 10 = n / 100 := by omega
  rw [this]; rfl
 ·have : n = 1000 := by omega
  subst this
  rw [dif_neg (by decide), if_neg h3, Lib.decDigits, dif_pos (by decide)]; rfl
def base3 (m : Int) : Prot := fun b o => if b = 4 then Nn.base2 b o else base2 m b o
theorem base3_le (m : Int) : Prot.le (base2 m) (base3 m) := by
 intro b o v h
 unfold base3
 by_cases e : b = 4
 ·subst e
  unfold base2 base1 at h
  rw [if_neg (by omega), if_neg (by omega)] at h
  cases h
 ·rw [if_neg e]; exact h
theorem base3_pow (m : Int) : Prot.le Nn.base2 (base3 m) := by
 intro b o v h
 unfold base3
 by_cases e : b = 4
 ·rw [if_pos e]; exact h
 ·unfold Nn.base2 at h
  rw [if_neg (fun hh => e hh.1)] at h
  cases h
def sFmt : List PVal → Option PVal
 | [.int .i64 n, .int .i64 b] => if 0 ≤ n ∧ n ≤ 1000 ∧ b = 10 then some (.str (itoaK n.toNat)) else none
 | _ => none
theorem fmt_ok : FnOk Tryz.prog (base3 m) 78 (pureS sFmt) := by
 refine fn_of_callsI (by kernel_rfl) fun ps x hs c w vs hI hl hr => ?_
 unfold sFmt at hs
 split at hs
 case h_2 => cases hs
 rename_i n b
 split at hs
 case isFalse => cases hs
 rename_i hc
 obtain ⟨h0, h1, rfl⟩ := hc
 obtain ⟨u, rfl⟩ := Int.eq_ofNat_of_zero_le h0
 cases hs
 match vs, hl with
 | [v0, v1], _ =>
  have r0 := hr 0 _ v0 rfl rfl
  have r1 := hr 1 _ v1 rfl rfl
  cases r0
  cases r1
  have hu : u ≤ 1000 := by omega
  refine (formatInt_walk u hu w (fun b o v hv => hI.prot _ _ _ (hI.base _ _ _ (base3_pow m _ _ _ hv)))).mono ?_
  rintro e w' ⟨rfl, hb⟩
  refine ⟨_, rfl, ?_, hb⟩
  rw [dig_itoa hu]
  have hl := (itoa_reads u (by omega)).2
  simp only [Int.toNat_natCast]
  exact .str _ (by unfold maxLen; omega)
def sIto : List PVal → Option PVal
 | [.int .i64 n] => if 0 ≤ n ∧ n ≤ 1000 then some (.str (itoaK n.toNat)) else none
 | _ => none
def Tit : Tab := Tab.none.with 78 (pureS sFmt)
theorem Tit_ok : TabOk Tryz.prog (base3 m) Tit := Tab.with_ok Tab.none_ok fmt_ok
theorem Tit_mu (f : FuncId) (a : List AVal) (H : Heap) : Tit.mu f a H = none := (rfl)
theorem Tit_1 : Tit.fn 78 = pureS sFmt := (rfl)
attribute [local simp] Tit_mu Tit_1
theorem itoI_ok : FnOk Tryz.prog (base3 m) 57 (pureS sIto) := by
 refine pure_of_vc hmix Tit_ok globNone low57 fun args x hs hf => ?_
 unfold sIto at hs
 split at hs
 case h_2 => cases hs
 rename_i n
 split at hs
 case isFalse => cases hs
 rename_i hc
 cases hs
 have h1 : sFmt [.int .i64 n, .int .i64 10] = some (.str (itoaK n.toNat)) := by simp only [sFmt]; rw [if_pos ⟨hc.1, hc.2, trivial⟩]
 refine ⟨by simp [lf57], ?_⟩
 simp [lf57, h1]
def Tiu : Tab := Tab.none.with 57 (pureS sIto)
theorem Tiu_ok : TabOk Tryz.prog (base3 m) Tiu := Tab.with_ok Tab.none_ok itoI_ok
theorem Tiu_mu (f : FuncId) (a : List AVal) (H : Heap) : Tiu.mu f a H = none := (rfl)
theorem Tiu_1 : Tiu.fn 57 = pureS sIto := (rfl)
attribute [local simp] Tiu_mu Tiu_1
theorem itoa_ok : FnOk Tryz.prog (base3 m) 31 (pureS sIto) := by
 refine pure_of_vc hmix Tiu_ok globNone low31 fun args x hs hf => ?_
 have hs' := hs
 unfold sIto at hs
 split at hs
 case h_2 => cases hs
 refine ⟨by simp [lf31], ?_⟩
 simp [lf31, hs']
theorem sIto_at {n : Nat} (h : n ≤ 1000) : sIto [.int .i64 n] = some (.str (itoaK n)) := by
 simp only [sIto]
 rw [if_pos ⟨Int.natCast_nonneg n, by omega⟩, Int.toNat_natCast]
end Go.Proofs.YtcbagnlidecmkaaGreatDoor

/-
 script.Text: its contract.
-/
namespace Go.Proofs.YtcbagnlidecmkaaGreatDoor
open Go Go.Abs Go.Lex Go.Sexp
set_option maxRecDepth 20000
attribute [local simp] pureS touchV freezeL fuel shiftV
variable {m : Int}
theorem nm_wr : ∀ k, k < 16 → 0 < k → wrW 3 (nameK k) = nameK k ∧ nmList[k - 1]? = some (nameK k) := by decide +kernel
theorem show_leafK (w : Lex.Key) : showK (.leaf w) = wrW w.1 w.2 := rfl
theorem show_sK (s : List UInt8) : showK (sK s) = wrW 3 s := rfl
def GoodC (c : Cmd Wd) : Prop := 1 ≤ c.kind ∧ c.kind ≤ 15 ∧ (treeK (c.map key)).all RdK ∧ (textK (c.map key)).length ≤ 50000 ∧ c.n ≤ 1000 ∧ c.params.length ≤ 50000
open Classical in
noncomputable def sText : List PVal → Option PVal
 | [v] => match decC v with
  | some c => if GoodC c then some (.str (textK (c.map key))) else none
  | none => none
 | _ => none
noncomputable def Ttx : Tab := ((((((Tab.none.with 24 (pureS sFieldsN)).with 27 (pureS sSm)).with 32 (pureS sLs)).with 30 (pureS sPrs)).with 28 (pureS sNone)).with 29 (pureS sShow)).with 31 (pureS sIto)
theorem Ttx_ok : TabOk Tryz.prog (base3 m) Ttx := Tab.with_ok (Tab.with_ok (Tab.with_ok (Tab.with_ok (Tab.with_ok (Tab.with_ok (Tab.with_ok Tab.none_ok (FnOk.over (base3_le m) (FnOk.over (base2_le m) fieldsN_ok))) (FnOk.over (base3_le m) sym_ok)) (FnOk.over (base3_le m) list_ok)) (FnOk.over (base3_le m) prs_ok)) none_ok) (FnOk.over (base3_le m) show_ok)) itoa_ok
theorem Ttx_mu (f : FuncId) (a : List AVal) (H : Heap) : Ttx.mu f a H = none := (rfl)
theorem Ttx_1 : Ttx.fn 24 = pureS sFieldsN := (rfl)
theorem Ttx_2 : Ttx.fn 27 = pureS sSm := (rfl)
theorem Ttx_3 : Ttx.fn 32 = pureS sLs := (rfl)
theorem Ttx_4 : Ttx.fn 30 = pureS sPrs := (rfl)
theorem Ttx_5 : Ttx.fn 28 = pureS sNone := (rfl)
theorem Ttx_6 : Ttx.fn 29 = pureS sShow := (rfl)
theorem Ttx_7 : Ttx.fn 31 = pureS sIto := (rfl)
attribute [local simp] Ttx_mu Ttx_1 Ttx_2 Ttx_3 Ttx_4 Ttx_5 Ttx_6 Ttx_7
theorem noneT_K (t : Tr Wd) : noneT t = noneK (t.map key) := by cases t <;> rfl
theorem parts_of (c : Cmd Wd) {l : List (Tr Lex.Key)} (h : partsK (c.map key) = l) (hg : GoodC c) : allL RdK l ∧ (∀ x ∈ l, (showK x).length ≤ 50000) ∧ (l.length ≤ 10 → sLs [.lst (.str (nameK c.kind) :: strsP (l.map showK))] = some (.str (textK (c.map key)))) := by
 obtain ⟨h1, h2, h3, h4, h5, h6⟩ := hg
 have e : treeK (c.map key) = .list (sK (nameK c.kind) :: l) := by rw [← h]; rfl
 unfold textK at h4
 rw [e] at h3 h4
 refine ⟨h3.2, fun x hx => ?_, fun hl => ?_⟩
 ·have := show_mem (l := sK (nameK c.kind) :: l) (x := x) (by simp [hx])
  omega
 ·have h7 := list_good (l := sK (nameK c.kind) :: l) h4 (by simp; omega)
  unfold textK
  rw [e]
  have h8 := (nm_wr c.kind (by omega) (by omega)).1
  rw [List.map_cons, show_sK, h8] at h7
  exact h7
theorem text_ok : FnOk Tryz.prog (base3 m) 11 (pureS sText) := by
 refine pure_of_vc hmix Ttx_ok globNone low11 fun args x hs hf => ?_
 unfold sText at hs
 split at hs
 case h_2 => cases hs
 split at hs
 case h_2 => cases hs
 rename_i c hd
 split at hs
 case isFalse => cases hs
 rename_i hg
 have := decC_some hd
 subst this
 cases hs
 refine ⟨by simp [lf11], ?_⟩
 obtain ⟨tb, tk, ts, ta, tvs, ten⟩ := encT_shape c.term
 have hec := encC_at ten
 have hfn := fields_nm
 simp only [nmText] at hfn
 have hk15 : c.kind = 1 ∨ c.kind = 2 ∨ c.kind = 3 ∨ c.kind = 4 ∨ c.kind = 5 ∨ c.kind = 6 ∨ c.kind = 7 ∨ c.kind = 8 ∨ c.kind = 9 ∨ c.kind = 10 ∨ c.kind = 11 ∨ c.kind = 12 ∨ c.kind = 13 ∨ c.kind = 14 ∨ c.kind = 15 := by have := hg.1; have := hg.2.1; omega
 have hget := (nm_wr c.kind (by have := hg.2.1; omega) hg.1).2
 have hnl : nmList.length = 15 := rfl
 have hn := hg.2.2.2.2.1
 have hpl := hg.2.2.2.2.2
 rcases hk15 with hk | hk | hk | hk | hk | hk | hk | hk | hk | hk | hk | hk | hk | hk | hk
 ·have hp : partsK (c.map key) = [sK c.name] := by simp [partsK, Cmd.map, hk]
  obtain ⟨hr, hl, hs⟩ := parts_of c hp hg
  have hs := hs (by simp)
  have s1 := sym_good hr.1 (hl (sK c.name) (by simp))
  try simp only [strsP, List.map_cons, List.map_nil, show_sK, show_leafK] at hs
  rw [hk] at hec hget hs
  rw [hec]
  simp at hget
  have hgt := (List.getElem?_eq_some_iff.1 hget).2
  have wk : IntKind.i64.wrap 0 = 0 := by decide
  simp [lf11, hfn, hnl, wk, hget, hgt, freeze1, fillS, s1, appV, hs, maxLen]
 ·have hp : partsK (c.map key) = [.leaf (4, c.name), c.term.map key] := by simp [partsK, Cmd.map, hk]
  obtain ⟨hr, hl, hs⟩ := parts_of c hp hg
  have hs := hs (by simp)
  have s2 := show_good (t := c.term) hr.2.1 (hl _ (by simp))
  rw [ten] at s2
  have s3 : sNone [encT c.term] = some (.bool (noneT c.term)) := by simp only [sNone, decT_enc]
  rw [ten] at s3
  generalize noneT c.term = nn at s3
  try simp only [strsP, List.map_cons, List.map_nil, show_sK, show_leafK] at hs
  rw [hk] at hec hget hs
  rw [hec]
  simp at hget
  have hgt := (List.getElem?_eq_some_iff.1 hget).2
  have wk : IntKind.i64.wrap 1 = 1 := by decide
  have hb : 1 + c.name.length ≤ 9223372036854775807 := by
   have h1 := rd_txt hr.1
   have h2 : (wrW 4 c.name).length ≤ 50000 := hl (.leaf (4, c.name)) (by simp)
   simp only at h1; omega
  have hw : wrW 4 c.name = 58 :: c.name := rfl
  simp only [hw] at hs
  cases nn <;> simp [lf11, hfn, hnl, wk, hget, hgt, freeze1, fillS, s2, s3, binS, hb, appV, hs, maxLen]
 ·have hb0 : RdK (4, c.name) → (wrW 4 c.name).length ≤ 50000 → 1 + c.name.length ≤ 9223372036854775807 := fun h1 h2 => by
   have h1 := rd_txt h1
   simp only at h1; omega
  have hw : wrW 4 c.name = 58 :: c.name := rfl
  have s3 : sNone [encT c.term] = some (.bool (noneT c.term)) := by simp only [sNone, decT_enc]
  rw [ten] at s3
  by_cases hnn : noneT c.term = true
  ·have hp : partsK (c.map key) = [.leaf (4, c.name)] := by
    have := hnn; rw [noneT_K] at this
    simp [partsK, Cmd.map, hk, this]
   obtain ⟨hr, hl, hs⟩ := parts_of c hp hg
   have hs := hs (by simp)
   have hb := hb0 hr.1 (hl (.leaf (4, c.name)) (by simp))
   simp only [strsP, List.map_cons, List.map_nil, show_sK, show_leafK, hw] at hs
   rw [hnn] at s3
   rw [hk] at hec hget hs
   rw [hec]
   simp at hget
   have hgt := (List.getElem?_eq_some_iff.1 hget).2
   have wk : IntKind.i64.wrap 2 = 2 := by decide
   simp [lf11, hfn, hnl, wk, hget, hgt, freeze1, fillS, s3, binS, hb, appV, hs, maxLen]
  ·have hnf : noneT c.term = false := by simpa using hnn
   have hp : partsK (c.map key) = [.leaf (4, c.name), c.term.map key] := by
    have := hnf; rw [noneT_K] at this
    simp [partsK, Cmd.map, hk, this]
   obtain ⟨hr, hl, hs⟩ := parts_of c hp hg
   have hs := hs (by simp)
   have hb := hb0 hr.1 (hl (.leaf (4, c.name)) (by simp))
   have s2 := show_good (t := c.term) hr.2.1 (hl _ (by simp))
   rw [ten] at s2
   simp only [strsP, List.map_cons, List.map_nil, show_sK, show_leafK, hw] at hs
   rw [hnf] at s3
   rw [hk] at hec hget hs
   rw [hec]
   simp at hget
   have hgt := (List.getElem?_eq_some_iff.1 hget).2
   have wk : IntKind.i64.wrap 2 = 2 := by decide
   simp [lf11, hfn, hnl, wk, hget, hgt, freeze1, fillS, s2, s3, binS, hb, appV, hs, maxLen]
 ·have hp : partsK (c.map key) = [sK c.name, .leaf (5, [48])] := by simp [partsK, Cmd.map, hk]
  obtain ⟨hr, hl, hs⟩ := parts_of c hp hg
  have hs := hs (by simp)
  have s1 := sym_good hr.1 (hl (sK c.name) (by simp))
  have hw : wrW 5 [48] = [48] := rfl
  simp only [strsP, List.map_cons, List.map_nil, show_sK, show_leafK, hw] at hs
  try simp only [strsP, List.map_cons, List.map_nil, show_sK, show_leafK] at hs
  rw [hk] at hec hget hs
  rw [hec]
  simp at hget
  have hgt := (List.getElem?_eq_some_iff.1 hget).2
  have wk : IntKind.i64.wrap 3 = 3 := by decide
  simp [lf11, hfn, hnl, wk, hget, hgt, freeze1, fillS, s1, appV, hs, maxLen]
 ·have hp : partsK (c.map key) = [sK c.name, .list (parTs 5 c.params), sK c.result] := by simp [partsK, Cmd.map, hk, parTs]
  obtain ⟨hr, hl, hs⟩ := parts_of c hp hg
  have hs := hs (by simp)
  have s1 := sym_good hr.1 (hl (sK c.name) (by simp))
  have s3 := sym_good hr.2.2.1 (hl (sK c.result) (by simp))
  have s4 : sPrs [encC c] = some (.str (showK (.list (parTs c.kind c.params)))) := by
   simp only [sPrs, decC_enc]
   rw [hk]
   exact if_pos ⟨hr.2.1, hl _ (by simp), hpl⟩
  rw [hec] at s4
  try simp only [strsP, List.map_cons, List.map_nil, show_sK, show_leafK] at hs
  rw [hk] at hec hget hs s4
  simp only [show ((5:Nat):Int) = 5 from rfl, show ((6:Nat):Int) = 6 from rfl] at s4
  rw [hec]
  simp at hget
  have hgt := (List.getElem?_eq_some_iff.1 hget).2
  have wk : IntKind.i64.wrap 4 = 4 := by decide
  simp [lf11, hfn, hnl, wk, hget, hgt, freeze1, fillS, s1, s3, s4, appV, hs, maxLen]
  rw [vc_regionW]
  refine ⟨[], ?_⟩
  simp [hfn, hget, hgt, freeze1, fillS, s1, s3, s4, appV, hs, maxLen]
 ·have hp : partsK (c.map key) = [sK c.name, .list (parTs 6 c.params), sK c.result, c.term.map key] := by simp [partsK, Cmd.map, hk, parTs]
  obtain ⟨hr, hl, hs⟩ := parts_of c hp hg
  have hs := hs (by simp)
  have s1 := sym_good hr.1 (hl (sK c.name) (by simp))
  have s3 := sym_good hr.2.2.1 (hl (sK c.result) (by simp))
  have s4 : sPrs [encC c] = some (.str (showK (.list (parTs c.kind c.params)))) := by
   simp only [sPrs, decC_enc]
   rw [hk]
   exact if_pos ⟨hr.2.1, hl _ (by simp), hpl⟩
  rw [hec] at s4
  have s2 := show_good (t := c.term) hr.2.2.2.1 (hl _ (by simp))
  rw [ten] at s2
  try simp only [strsP, List.map_cons, List.map_nil, show_sK, show_leafK] at hs
  rw [hk] at hec hget hs s4
  simp only [show ((5:Nat):Int) = 5 from rfl, show ((6:Nat):Int) = 6 from rfl] at s4
  rw [hec]
  simp at hget
  have hgt := (List.getElem?_eq_some_iff.1 hget).2
  have wk : IntKind.i64.wrap 5 = 5 := by decide
  simp [lf11, hfn, hnl, wk, hget, hgt, freeze1, fillS, s1, s3, s4, s2, appV, hs, maxLen]
  rw [vc_regionW]
  refine ⟨[], ?_⟩
  simp [hfn, hget, hgt, freeze1, fillS, s1, s3, s4, s2, appV, hs, maxLen]
 ·have hp : partsK (c.map key) = [c.term.map key] := by simp [partsK, Cmd.map, hk]
  obtain ⟨hr, hl, hs⟩ := parts_of c hp hg
  have hs := hs (by simp)
  have s2 := show_good (t := c.term) hr.1 (hl _ (by simp))
  rw [ten] at s2
  try simp only [strsP, List.map_cons, List.map_nil, show_sK, show_leafK] at hs
  rw [hk] at hec hget hs
  rw [hec]
  simp at hget
  have hgt := (List.getElem?_eq_some_iff.1 hget).2
  have wk : IntKind.i64.wrap 6 = 6 := by decide
  simp [lf11, hfn, hnl, wk, hget, hgt, freeze1, fillS, s2, appV, hs, maxLen]
 ·have hp : partsK (c.map key) = [.leaf (5, itoaK c.n)] := by simp [partsK, Cmd.map, hk]
  obtain ⟨hr, hl, hs⟩ := parts_of c hp hg
  have hs := hs (by simp)
  have s5 := sIto_at hn
  have hw : wrW 5 (itoaK c.n) = itoaK c.n := rfl
  simp only [strsP, List.map_cons, List.map_nil, show_sK, show_leafK, hw] at hs
  try simp only [strsP, List.map_cons, List.map_nil, show_sK, show_leafK] at hs
  rw [hk] at hec hget hs
  rw [hec]
  simp at hget
  have hgt := (List.getElem?_eq_some_iff.1 hget).2
  have wk : IntKind.i64.wrap 7 = 7 := by decide
  simp [lf11, hfn, hnl, wk, hget, hgt, freeze1, fillS, s5, appV, hs, maxLen]
 ·have hp : partsK (c.map key) = [.leaf (5, itoaK c.n)] := by simp [partsK, Cmd.map, hk]
  obtain ⟨hr, hl, hs⟩ := parts_of c hp hg
  have hs := hs (by simp)
  have s5 := sIto_at hn
  have hw : wrW 5 (itoaK c.n) = itoaK c.n := rfl
  simp only [strsP, List.map_cons, List.map_nil, show_sK, show_leafK, hw] at hs
  try simp only [strsP, List.map_cons, List.map_nil, show_sK, show_leafK] at hs
  rw [hk] at hec hget hs
  rw [hec]
  simp at hget
  have hgt := (List.getElem?_eq_some_iff.1 hget).2
  have wk : IntKind.i64.wrap 8 = 8 := by decide
  simp [lf11, hfn, hnl, wk, hget, hgt, freeze1, fillS, s5, appV, hs, maxLen]
 ·have hp : partsK (c.map key) = [] := by simp [partsK, Cmd.map, hk]
  obtain ⟨hr, hl, hs⟩ := parts_of c hp hg
  have hs := hs (by simp)
  try simp only [strsP, List.map_cons, List.map_nil, show_sK, show_leafK] at hs
  rw [hk] at hec hget hs
  rw [hec]
  simp at hget
  have hgt := (List.getElem?_eq_some_iff.1 hget).2
  have wk : IntKind.i64.wrap 9 = 9 := by decide
  simp [lf11, hfn, hnl, wk, hget, hgt, freeze1, fillS, appV, hs, maxLen]
 ·have hp : partsK (c.map key) = [] := by simp [partsK, Cmd.map, hk]
  obtain ⟨hr, hl, hs⟩ := parts_of c hp hg
  have hs := hs (by simp)
  try simp only [strsP, List.map_cons, List.map_nil, show_sK, show_leafK] at hs
  rw [hk] at hec hget hs
  rw [hec]
  simp at hget
  have hgt := (List.getElem?_eq_some_iff.1 hget).2
  have wk : IntKind.i64.wrap 10 = 10 := by decide
  simp [lf11, hfn, hnl, wk, hget, hgt, freeze1, fillS, appV, hs, maxLen]
 ·have hp : partsK (c.map key) = [(Tr.list c.terms).map key] := by simp [partsK, Cmd.map, hk, Tr.map]
  obtain ⟨hr, hl, hs⟩ := parts_of c hp hg
  have hs := hs (by simp)
  have s2 := show_good (t := .list c.terms) hr.1 (hl _ (by simp))
  simp only [encT] at s2
  try simp only [strsP, List.map_cons, List.map_nil, show_sK, show_leafK] at hs
  rw [hk] at hec hget hs
  rw [hec]
  simp at hget
  have hgt := (List.getElem?_eq_some_iff.1 hget).2
  have wk : IntKind.i64.wrap 11 = 11 := by decide
  simp [lf11, hfn, hnl, wk, hget, hgt, freeze1, fillS, s2, fillA, appV, hs, maxLen]
 ·have hp : partsK (c.map key) = [.leaf (7, c.name)] := by simp [partsK, Cmd.map, hk]
  obtain ⟨hr, hl, hs⟩ := parts_of c hp hg
  have hs := hs (by simp)
  have s2 := show_good (t := .leaf ⟨7, c.name, 0⟩) hr.1 (hl (.leaf (7, c.name)) (by simp))
  simp only [encT, Tr.map, Lex.key, show_leafK, show ((7:Nat):Int) = 7 from rfl, show ((0:Nat):Int) = 0 from rfl] at s2
  try simp only [strsP, List.map_cons, List.map_nil, show_sK, show_leafK] at hs
  rw [hk] at hec hget hs
  rw [hec]
  simp at hget
  have hgt := (List.getElem?_eq_some_iff.1 hget).2
  have wk : IntKind.i64.wrap 12 = 12 := by decide
  simp [lf11, hfn, hnl, wk, hget, hgt, freeze1, fillS, s2, fillA, appV, hs, maxLen]
 ·have hp : partsK (c.map key) = [] := by simp [partsK, Cmd.map, hk]
  obtain ⟨hr, hl, hs⟩ := parts_of c hp hg
  have hs := hs (by simp)
  try simp only [strsP, List.map_cons, List.map_nil, show_sK, show_leafK] at hs
  rw [hk] at hec hget hs
  rw [hec]
  simp at hget
  have hgt := (List.getElem?_eq_some_iff.1 hget).2
  have wk : IntKind.i64.wrap 13 = 13 := by decide
  simp [lf11, hfn, hnl, wk, hget, hgt, freeze1, fillS, appV, hs, maxLen]
 ·have hp : partsK (c.map key) = [] := by simp [partsK, Cmd.map, hk]
  obtain ⟨hr, hl, hs⟩ := parts_of c hp hg
  have hs := hs (by simp)
  try simp only [strsP, List.map_cons, List.map_nil, show_sK, show_leafK] at hs
  rw [hk] at hec hget hs
  rw [hec]
  simp at hget
  have hgt := (List.getElem?_eq_some_iff.1 hget).2
  have wk : IntKind.i64.wrap 14 = 14 := by decide
  simp [lf11, hfn, hnl, wk, hget, hgt, freeze1, fillS, appV, hs, maxLen]
end Go.Proofs.YtcbagnlidecmkaaGreatDoor
