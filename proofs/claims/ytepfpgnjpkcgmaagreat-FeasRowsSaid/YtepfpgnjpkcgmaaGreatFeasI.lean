/-
  FeasRows answers true on all values. No conditions.
-/
import Derived.Test.YtepfpgnjpkcgmaaGreatFeasH
set_option linter.unusedSimpArgs false
set_option linter.unnecessarySimpa false
set_option linter.unusedVariables false
set_option linter.constructorNameAsVariable false

/-
 law22: bounds one after the other: the plain law.
-/
namespace Go.Proofs.YtepfpgnjpkcgmaaGreat
open Go Go.Abs Go.Limbs
set_option maxRecDepth 20000
def rowC (v : Int) : Int := v % 20 - 10
def rowK (v : Int) : Int := (v.tdiv 20) % 3
def rowN (v : Int) : Bool := (v.tdiv 60) % 2 == 1
def rowQ (c : Int) : Qo := ⟨[(1, 4)], (c : Rat)⟩
def rowSet (v : Int) : List Sp := turnS (rowN v) (cutS (1 + rowK v) true (ofQ (-((rowC v : Int) : Rat))))
def rowT (k z : Int) : Bool := if k = 0 then decide (z ≤ 0) else if k = 1 then decide (z < 0) else (z == 0)
def rowI (y v : Int) : Bool := rowT (rowK v) (y + 2 * rowC v) != rowN v
theorem row_make : ∀ k ∈ [(1 : Int), 2, 3], ∀ j ∈ List.range 20, makeAt k (ofP (rowQ ((j : Int) - 10))) = (atQ k (rowQ ((j : Int) - 10)), false, 0) := by decide +kernel
theorem row_of : ∀ k ∈ [(1 : Int), 2, 3], ∀ j ∈ List.range 20, ∀ nt ∈ [true, false], ofAt (fun _ => ofQ 0) (atQ k (rowQ ((j : Int) - 10))) nt 4 = (turnS nt (cutS k true (ofQ (-(((j : Int) - 10 : Int) : Rat)))), 0) := by decide +kernel
theorem row_sign : ∀ k ∈ [(0 : Int), 1, 2], ∀ i ∈ List.range 60, ∀ j ∈ List.range 20, soF (1 + k) (cmpQ (Rat.divInt ((i : Int) - 30) 2) (-(((j : Int) - 10 : Int) : Rat))) = rowT k ((i : Int) - 30 + 2 * ((j : Int) - 10)) := by decide +kernel
theorem row_sm : ∀ j ∈ List.range 20, Sm 64 (-(((j : Int) - 10 : Int) : Rat)) := by decide +kernel
theorem row_y : ∀ i ∈ List.range 60, Sm 64 (Rat.divInt ((i : Int) - 30) 2) := by decide +kernel
theorem rowC_at (v : Int) : ∃ j ∈ List.range 20, rowC v = (j : Int) - 10 := by
 have h1 := Int.emod_nonneg v (show (20 : Int) ≠ 0 by decide)
 have h2 := Int.emod_lt_of_pos v (show (0 : Int) < 20 by decide)
 refine ⟨(v % 20).toNat, List.mem_range.2 (by omega), ?_⟩
 unfold rowC
 omega
theorem rowK_at (v : Int) : rowK v = 0 ∨ rowK v = 1 ∨ rowK v = 2 := by
 unfold rowK
 have h1 := Int.emod_nonneg (v.tdiv 20) (show (3 : Int) ≠ 0 by decide)
 have h2 := Int.emod_lt_of_pos (v.tdiv 20) (show (0 : Int) < 3 by decide)
 omega
theorem rowC_sm (v : Int) : Sm 64 (-((rowC v : Int) : Rat)) := by
 obtain ⟨j, hj, e⟩ := rowC_at v
 rw [e]
 exact row_sm j hj
theorem row_makes (v : Int) : makeAt (1 + rowK v) (ofP (rowQ (rowC v))) = (atQ (1 + rowK v) (rowQ (rowC v)), false, 0) := by
 obtain ⟨j, hj, e⟩ := rowC_at v
 rw [e]
 rcases rowK_at v with h | h | h <;> rw [h] <;> exact row_make _ (by decide) j hj
theorem row_ofs (v : Int) : ofAt (fun _ => ofQ 0) (atQ (1 + rowK v) (rowQ (rowC v))) (rowN v) 4 = (rowSet v, 0) := by
 unfold rowSet
 obtain ⟨j, hj, e⟩ := rowC_at v
 rw [e]
 obtain ⟨n, hn⟩ : ∃ n, n = rowN v := ⟨_, rfl⟩
 rw [← hn]
 have hm : n ∈ [true, false] := by cases n <;> simp
 rcases rowK_at v with h | h | h <;> rw [h] <;> exact row_of _ (by decide) j hj n hm
theorem row_sum (v : Int) : isSum (1 + rowK v) = true := by
 rcases rowK_at v with h | h | h <;> rw [h] <;> rfl
theorem row_valid (v : Int) : validP none (rowSet v) = true := by
 unfold rowSet turnS
 have h := cut_valid (k := 1 + rowK v) (up := true) (rowC_sm v)
 split
 ·unfold otherL
  rw [h, if_pos rfl]
  exact other_valid h
 ·exact h
theorem wf_rowSet (v : Int) : wfSs (rowSet v) := wf_turnS (wf_cutS (wf_ofQ _))
theorem len_rowSet (v : Int) : (rowSet v).length ≤ 2 := by
 unfold rowSet turnS
 have h := len_cutS (1 + rowK v) true (ofQ (-((rowC v : Int) : Rat)))
 split
 ·have := len_otherL (cutS (1 + rowK v) true (ofQ (-((rowC v : Int) : Rat))))
  omega
 ·omega
theorem row_mem {y v : Int} (hy : -30 ≤ y ∧ y < 30) : mem (.at (Rat.divInt y 2) false) ((rowSet v).map Sp.e) ↔ rowI y v = true := by
 have h := cut_valid (k := 1 + rowK v) (up := true) (rowC_sm v)
 have hm := cut_mem (k := 1 + rowK v) (up := true) (x := Rat.divInt y 2) (row_sum v) (rowC_sm v)
 simp only [if_true] at hm
 have hs : soF (1 + rowK v) (cmpQ (Rat.divInt y 2) (-((rowC v : Int) : Rat))) = rowT (rowK v) (y + 2 * rowC v) := by
  obtain ⟨j, hj, e⟩ := rowC_at v
  have hi : (y + 30).toNat ∈ List.range 60 := List.mem_range.2 (by omega)
  have ey : y = ((y + 30).toNat : Int) - 30 := by omega
  have := fun k hk => row_sign k hk _ hi j hj
  rw [← ey] at this
  rw [e]
  rcases rowK_at v with h | h | h <;> rw [h] <;> exact this _ (by decide)
 rw [hs] at hm
 unfold rowSet rowI turnS
 cases hn : rowN v with
 | false =>
  simp only [Bool.false_eq_true, if_false, Bool.bne_false]
  exact hm
 | true =>
  simp only [if_true, Bool.bne_true]
  unfold otherL
  rw [h, if_pos rfl, other_mem h at_lt_hi, hm]
  simp
def allS : List Int → List Sp → List Sp
 | [], s => s
 | v :: r, s => allS r (meetL s (rowSet v))
theorem meetL_valid {s u : List Sp} (hs : validP none s = true) (hu : validP none u = true) : validP none (meetL s u) = true := by
 unfold meetL
 rw [hs, hu]
 exact meet_valid hs hu
theorem meetL_mem {s u : List Sp} {c : EC} (hs : validP none s = true) (hu : validP none u = true) : mem c ((meetL s u).map Sp.e) ↔ mem c (s.map Sp.e) ∧ mem c (u.map Sp.e) := by
 unfold meetL
 rw [hs, hu]
 exact meet_mem hs hu
theorem all_valid : ∀ {l : List Int} {s : List Sp}, validP none s = true → validP none (allS l s) = true
 | [], _, h => h
 | v :: r, s, h => all_valid (l := r) (meetL_valid h (row_valid v))
theorem all_mem {c : EC} : ∀ {l : List Int} {s : List Sp}, validP none s = true → (mem c ((allS l s).map Sp.e) ↔ mem c (s.map Sp.e) ∧ ∀ v ∈ l, mem c ((rowSet v).map Sp.e))
 | [], _, _ => by simp [allS]
 | v :: r, s, h => by
  rw [allS, all_mem (meetL_valid h (row_valid v)), meetL_mem h (row_valid v)]
  simp only [List.mem_cons, forall_eq_or_imp]
  grind
theorem wf_allS : ∀ {l : List Int} {s : List Sp}, wfSs s → wfSs (allS l s)
 | [], _, h => h
 | v :: r, _, h => wf_allS (l := r) (wf_meetL h (wf_rowSet v))
theorem len_allS : ∀ (l : List Int) (s : List Sp), (allS l s).length ≤ s.length + 2 * l.length
 | [], s => by simp [allS]
 | v :: r, s => by
  have h1 := len_allS r (meetL s (rowSet v))
  have h2 := len_meetL s (rowSet v)
  have h3 := len_rowSet v
  simp only [allS, List.length_cons]
  omega
theorem all_snoc (v : Int) : ∀ (l : List Int) (s : List Sp), allS (l ++ [v]) s = meetL (allS l s) (rowSet v)
 | [], _ => rfl
 | _ :: r, _ => all_snoc v r _
theorem allSp_valid : validP none [allSp] = true := by decide +kernel
theorem allSp_mem {c : EC} (h : c < .hi) : mem c ([allSp].map Sp.e) := .inl ⟨EC.lo_le _, h⟩
theorem all_perm {l m : List Int} (h : ∀ v, v ∈ l ↔ v ∈ m) : allS l [allSp] = allS m [allSp] :=
 valid_uniq (all_valid allSp_valid) (all_valid allSp_valid) fun c hc => by
  rw [all_mem allSp_valid, all_mem allSp_valid]
  simp only [h]
theorem all_has {l : List Int} {y : Int} (hy : -30 ≤ y ∧ y < 30) : hasS (allS l [allSp]) (ofQ (Rat.divInt y 2)) = l.all (rowI y) := by
 have hys : Sm 64 (Rat.divInt y 2) := by
  have := row_y (y + 30).toNat (List.mem_range.2 (by omega))
  rwa [show (((y + 30).toNat : Int) - 30) = y by omega] at this
 have hv := all_valid (l := l) allSp_valid
 unfold hasS
 rw [hv, ok_ofQ hys, Bool.eq_iff_iff]
 have := any_mem (ok_ofQ hys) (valid_iff.1 hv).1
 rw [q_ofQ] at this
 simp only [Bool.true_and]
 rw [this, all_mem allSp_valid, List.all_eq_true]
 constructor
 ·intro h v hv; exact (row_mem hy).1 (h.2 v hv)
 ·intro h; exact ⟨allSp_mem at_lt_hi, fun v hv => (row_mem hy).2 (h v hv)⟩
def rotL (l : List Int) (k : Nat) : List Int := (List.range l.length).map fun i => l.getD ((i + k) % l.length) 0
theorem len_rotL (l : List Int) (k : Nat) : (rotL l k).length = l.length := by simp [rotL]
theorem rotL_at {l : List Int} {k i : Nat} (h : i < l.length) : (rotL l k)[i]? = l[(i + k) % l.length]? := by
 have hm : (i + k) % l.length < l.length := Nat.mod_lt _ (by omega)
 unfold rotL
 rw [List.getElem?_map, List.getElem?_range h, List.getElem?_eq_getElem hm]
 simp [List.getD, hm]
theorem rotL_mem {l : List Int} {k : Nat} (hk : k ≤ l.length) (v : Int) : v ∈ rotL l k ↔ v ∈ l := by
 constructor
 ·intro h
  obtain ⟨i, hi, e⟩ := List.mem_iff_getElem.1 h
  have hil : i < l.length := by rw [len_rotL] at hi; exact hi
  have := rotL_at (k := k) hil
  rw [List.getElem?_eq_getElem hi, e] at this
  exact List.mem_of_getElem? this.symm
 ·intro h
  obtain ⟨i, hi, e⟩ := List.mem_iff_getElem.1 h
  have hpos : 0 < l.length := by omega
  refine List.mem_of_getElem? (i := (i + (l.length - k)) % l.length) ?_
  rw [rotL_at (Nat.mod_lt _ hpos)]
  have : ((i + (l.length - k)) % l.length + k) % l.length = i := by
   rw [Nat.mod_add_mod, show i + (l.length - k) + k = i + l.length by omega, Nat.add_mod_right, Nat.mod_eq_of_lt hi]
  rw [this, List.getElem?_eq_getElem hi, e]
end Go.Proofs.YtepfpgnjpkcgmaaGreat

/-
 law22: FeasRows answers true.
-/
namespace Go.Proofs.YtepfpgnjpkcgmaaGreat
open Go Go.Abs Go.Limbs
variable {base : Prot}
set_option maxRecDepth 20000
attribute [local irreducible] vc
attribute [local simp] pureS touchV freezeL fuel shiftV u64 au
def encZ (z : Int) : PVal := .int .i64 z
def inI64 (z : Int) : Prop := -9223372036854775808 ≤ z ∧ z < 9223372036854775808
instance (z : Int) : Decidable (inI64 z) := inferInstanceAs (Decidable (_ ∧ _))
def decIs : List PVal → Option (List Int)
 | [] => some []
 | .int .i64 z :: r => if inI64 z then (match decIs r with | some l => some (z :: l) | none => none) else none
 | _ :: _ => none
theorem decIs_enc : ∀ {l : List Int}, (∀ z ∈ l, inI64 z) → decIs (l.map encZ) = some l
 | [], _ => rfl
 | z :: r, h => by
  show (if inI64 z then (match decIs (r.map encZ) with | some l => some (z :: l) | none => none) else none) = _
  rw [if_pos (h z (by simp)), decIs_enc fun y hy => h y (by simp [hy])]
theorem decIs_some : ∀ {vs : List PVal} {l : List Int}, decIs vs = some l → vs = l.map encZ ∧ ∀ z ∈ l, inI64 z
 | [], l, h => by cases h; exact ⟨rfl, fun x hx => by cases hx⟩
 | v :: r, l, h => by
  unfold decIs at h
  split at h
  ·cases ‹_ = []›
  ·rename_i z r' e
   cases e
   split at h
   ·rename_i hz
    split at h
    ·rename_i m hm
     cases h
     obtain ⟨rfl, w⟩ := decIs_some hm
     exact ⟨rfl, fun y hy => by
      rcases List.mem_cons.1 hy with rfl | hy
      ·exact hz
      ·exact w y hy⟩
    ·cases h
   ·cases h
  ·cases h
def Tl22r : Tab := ((((((((Tab.none.with 57 (pureS sAwk)).with 52 (pureS sRoundN)).with 73 (pureS sAll)).with 82 (pureS sQOf)).with 83 (pureS (ki makeP))).with 76 (pureS (sOfA L22))).with 63 (pureS (ks2 100000 meetP))).with 62 (pureS (ss2 sameSs))).with 69 (pureS (s1x hasP))
theorem Tl22r_ok : TabOk Tryz.prog base Tl22r := Tab.with_ok (Tab.with_ok (Tab.with_ok (Tab.with_ok (Tab.with_ok (Tab.with_ok (Tab.with_ok (Tab.with_ok (Tab.with_ok Tab.none_ok awake22_ok) roundN_ok) fall_ok) rofR_ok) rmake_ok) of22_ok) fmeet_ok) rsamesp_ok) fhas_ok
theorem Tl22r_mu (f : FuncId) (a : List AVal) (H : Heap) : Tl22r.mu f a H = none := (rfl)
theorem Tl22r_fns : Tl22r.fn 57 = (pureS sAwk) ∧ Tl22r.fn 52 = (pureS sRoundN) ∧ Tl22r.fn 73 = (pureS sAll) ∧ Tl22r.fn 82 = (pureS sQOf) ∧ Tl22r.fn 83 = (pureS (ki makeP)) ∧ Tl22r.fn 76 = (pureS (sOfA L22)) ∧ Tl22r.fn 63 = (pureS (ks2 100000 meetP)) ∧ Tl22r.fn 62 = (pureS (ss2 sameSs)) ∧ Tl22r.fn 69 = (pureS (s1x hasP)) := ⟨rfl, rfl, rfl, rfl, rfl, rfl, rfl, rfl, rfl⟩
def sLaw22r : List PVal → Option PVal
 | [.lst vs, .int .i64 _, .int .i64 _] => match decIs vs with | some _ => some (.bool true) | none => none
 | _ => none
theorem sLaw22r_at {l : List Int} {k y : Int} (w : ∀ z ∈ l, inI64 z) : sLaw22r [.lst (l.map encZ), .int .i64 k, .int .i64 y] = some (.bool true) := by simp only [sLaw22r, decIs_enc w]
theorem freeze_snoc {a e : Ent} {ex : Heap} : freeze1 (a :: (ex ++ [e])) (ex.length + 1) = a :: (ex ++ [⟨e.size, e.ver, true, e.elems, e.ty⟩]) := by
 unfold freeze1
 simp
theorem eqNot (a n : Bool) : (a == n) = (!a != n) := by cases a <;> cases n <;> rfl
def setE (A : List PVal) : Nat → AVal
 | 0 => .agg [.tight [], .tight []]
 | 1 => .agg [.p (.lst A), .tight []]
 | _ => .p (.agg [.lst A, .lst A])
def ordL (l : List Int) (k : Nat) : Nat → List Int
 | 0 => l
 | _ => rotL l k
def RB (l : List Int) (k : Nat) (y : Int) (A : List PVal) (n : Nat) (fr : AFr) (H : Heap) : Prop := (∃ ex, H = ⟨2, 0, false, [setE A n], 108⟩ :: ex) ∧
 fr 0 = .p (.lst (l.map encZ)) ∧ fr 7 = .p (.clo 81 []) ∧ fr 8 = .p (.int .i64 k) ∧ fr 9 = .optr 0 0 0 0 ∧ fr 11 = .p (.int .i64 y) ∧ fr 12 = .p (.int .i64 n)
def RInv (l : List Int) (k : Nat) (y : Int) (A : List PVal) (fr : AFr) (H : Heap) : Prop := ∃ n : Nat, n ≤ 2 ∧ RB l k y A n fr H ∧ fr 10 = .p (.bool (decide (n = 0) || l.all (rowI y)))
def SInv (l : List Int) (k : Nat) (y : Int) (A : List PVal) (n : Nat) (fr : AFr) (H : Heap) : Prop := ∃ i : Nat, i ≤ l.length ∧ RB l k y A n fr H ∧
 fr 10 = .p (.bool ((decide (n = 0) || l.all (rowI y)) && ((ordL l k n).take i).all (rowI y))) ∧ fr 13 = .p (.lst ((allS ((ordL l k n).take i) [allSp]).map Sp.enc)) ∧ fr 14 = .p (.int .i64 i)
set_option maxHeartbeats 4000000 in
theorem feasRows_ok : FnOk Tryz.prog base 12 (pureS sLaw22r) := by
 refine pure_of_vc hmix Tl22r_ok globNone low12 fun args z hs hf => ?_
 unfold sLaw22r at hs
 split at hs
 case h_2 => cases hs
 rename_i vs turn xx
 split at hs
 case h_2 => cases hs
 rename_i l hl1
 obtain ⟨rfl, wl⟩ := decIs_some hl1
 cases hs
 refine ⟨by simp [lf12], ?_⟩
 have aw := sAwk_nil
 by_cases hlen : l.length ≤ 15
 case neg =>
  have h1 : (15 : Int) < (l.length : Int) := by omega
  simp [lf12, h1, aw, fillS, Tl22r_mu, Tl22r_fns]
 have h15 : ¬ (15 : Int) < (l.length : Int) := by omega
 -- where the second order begins; the value
 have k0 := Int.emod_nonneg turn (show (l.length : Int) + 1 ≠ 0 by omega)
 have k1 := Int.emod_lt_of_pos turn (show (0 : Int) < (l.length : Int) + 1 by omega)
 obtain ⟨k, hk⟩ : ∃ k : Nat, turn % ((l.length : Int) + 1) = k := ⟨(turn % ((l.length : Int) + 1)).toNat, by omega⟩
 have hkl : k ≤ l.length := by omega
 have r1 := sRoundN_at (k := turn) (n := (l.length : Int) + 1) (by omega) (by omega)
 rw [hk] at r1
 have y0 := Int.emod_nonneg xx (show (60 : Int) ≠ 0 by decide)
 have y1 := Int.emod_lt_of_pos xx (show (0 : Int) < 60 by decide)
 have r2 := sRoundN_at (k := xx) (n := 60) (by decide) (by decide)
 obtain ⟨y, hy⟩ : ∃ y, y = xx % 60 - 30 := ⟨_, rfl⟩
 have hyr : -30 ≤ y ∧ y < 30 := by omega
 have w1 : IntKind.i64.wrap ((l.length : Int) + 1) = (l.length : Int) + 1 := IntWalk.i64_in _ (by omega)
 have w2 : IntKind.i64.wrap (xx % 60 - 30) = y := by rw [← hy]; exact IntWalk.i64_in _ (by omega)
 obtain ⟨A, hA⟩ : ∃ A, A = (allS l [allSp]).map Sp.enc := ⟨_, rfl⟩
 have e1 : sAll [] = some (.lst ([allSp].map Sp.enc)) := rfl
 have wall : wfSs [allSp] := by intro y hy; rw [List.mem_singleton] at hy; subst hy; exact ⟨wf_zF, wf_zF⟩
 simp [lf12, h15, r1, r2, w1, w2, fillS, Tl22r_mu, Tl22r_fns]
 simp only [lf12_B1, vc_block]
 refine loop_ind (RInv l k y A) (fun fr _ => 2 - ivar (fr 12))
  ⟨0, by omega, ⟨⟨[], by simp [setE]⟩, by simp, by simp, by simp, by simp, by simp, by simp⟩, by simp⟩ ?_
 rintro fr H ⟨n, hn, ⟨⟨ex, rfl⟩, f0, f7, f8, f9, f11, f12⟩, f10⟩
 by_cases hn2 : n < 2
 ·have hn2I : (n : Int) < 2 := by omega
  simp [f0, f7, f8, f9, f10, f11, f12, hn2I, e1, Tl22r_mu, Tl22r_fns]
  simp only [lf12_B0, vc_block]
  refine loop_ind (SInv l k y A n) (fun fr _ => l.length - ivar (fr 14))
   ⟨0, by omega, ⟨⟨ex, rfl⟩, by simp [f0], by simp [f7], by simp [f8], by simp [f9], by simp [f11], by simp [f12]⟩, by simp [f10], by simp [allS], by simp⟩ ?_
  clear f0 f7 f8 f9 f10 f11 f12
  rintro fr2 H2 ⟨i, hi, ⟨⟨ex2, rfl⟩, f0, f7, f8, f9, f11, f12⟩, f10, f13, f14⟩
  by_cases hil : i < l.length
  ·have hn01 : n = 0 ∨ n = 1 := by omega
   obtain ⟨u, hu⟩ : ∃ u, l[i]? = some u := ⟨_, List.getElem?_eq_getElem hil⟩
   have hue := getE hu
   have hm : (i + k) % l.length < l.length := Nat.mod_lt _ (by omega)
   obtain ⟨u2, hu2⟩ : ∃ u, l[(i + k) % l.length]? = some u := ⟨_, List.getElem?_eq_getElem hm⟩
   have hu2e := getE hu2
   have wik : IntKind.i64.wrap ((i : Int) + (k : Int)) = (i : Int) + (k : Int) := IntWalk.i64_in _ (by omega)
   have etm : Int.tmod ((i : Int) + (k : Int)) (l.length : Int) = (((i + k) % l.length : Nat) : Int) := by rw [← Int.natCast_add]; exact (Int.ofNat_tmod _ _).symm
   have hl0 : l.length ≠ 0 := by omega
   have hw := wrap_succ (i := i) (by omega)
   obtain ⟨v, hv⟩ : ∃ v, v = if n = 0 then u else u2 := ⟨_, rfl⟩
   have hord : (ordL l k n)[i]? = some v := by
    rcases hn01 with rfl | rfl
    ·rw [hv]; exact hu
    ·rw [hv]; show (rotL l k)[i]? = _; rw [rotL_at hil]; exact hu2
   have hvl : inI64 v := by
    rcases hn01 with rfl | rfl
    ·rw [hv]; exact wl u (List.mem_of_getElem? hu)
    ·rw [hv]; exact wl u2 (List.mem_of_getElem? hu2)
   have htk := take_succ_get hord
   have hC : -10 ≤ rowC v ∧ rowC v < 10 := by
    obtain ⟨j, hj, e⟩ := rowC_at v
    have := List.mem_range.1 hj
    omega
   have hK := rowK_at v
   have q1 := sRoundN_at (k := v) (n := 20) (by decide) (by decide)
   have w3 : IntKind.i64.wrap (v % 20 - 10) = rowC v := IntWalk.i64_in _ (by unfold rowC at hC; omega)
   have td : ∀ m : Int, 0 < m → -9223372036854775808 ≤ v.tdiv m ∧ v.tdiv m < 9223372036854775808 := fun m hm => by
    have h1 := Int.natAbs_tdiv_le_natAbs v m
    unfold inI64 at hvl
    rcases Int.lt_or_le v 0 with hv0 | hv0
    ·have : v.tdiv m ≤ 0 := by
      have := Int.tdiv_nonneg (a := -v) (b := m) (by omega) (by omega)
      rw [Int.neg_tdiv] at this
      omega
     omega
    ·have := Int.tdiv_nonneg hv0 (show (0 : Int) ≤ m by omega)
     omega
   have w4 : IntKind.i64.wrap (v.tdiv 20) = v.tdiv 20 := IntWalk.i64_in _ (by have := td 20 (by decide); omega)
   have w5 : IntKind.i64.wrap (v.tdiv 60) = v.tdiv 60 := IntWalk.i64_in _ (by have := td 60 (by decide); omega)
   have q2 : sRoundN [.int .i64 (v.tdiv 20), .int .i64 3] = some (.int .i64 (rowK v)) := sRoundN_at (by decide) (by decide)
   have q3 := sRoundN_at (k := v.tdiv 60) (n := 2) (by decide) (by decide)
   have e3 : ((v.tdiv 60) % 2 == 1) = rowN v := rfl
   have w6 : IntKind.i64.wrap (1 + rowK v) = 1 + rowK v := IntWalk.i64_in _ (by omega)
   have w7 : IntKind.i64.wrap (2 * rowC v) = 2 * rowC v := IntWalk.i64_in _ (by omega)
   have w8 : IntKind.i64.wrap (y + 2 * rowC v) = y + 2 * rowC v := IntWalk.i64_in _ (by omega)
   have o1 : sQOf [.int .i64 1, .int .i64 1] = some (ofQ 1).enc := oL (n := 1) (d := 1) (q := 1) (by decide) (by decide +kernel)
   have o2 : sQOf [.int .i64 (rowC v), .int .i64 1] = some (ofQ ((rowC v : Int) : Rat)).enc := oL (n := rowC v) (d := 1) (by omega) (divInt_one _)
   have m1 : ki makeP [.int .i64 (1 + rowK v), (ofP (rowQ (rowC v))).enc] = some (.tup [(atQ (1 + rowK v) (rowQ (rowC v))).enc, .bool false, .int .i64 0]) := by
    rw [ki_at (wf_ofP _) (by rfl)]; unfold makeP tripAt; rw [row_makes v]; rfl
   have f1' : sOfA L22 [(atQ (1 + rowK v) (rowQ (rowC v))).enc, .bool (rowN v), .int .i64 4, .clo 81 []] = some (.tup [.lst ((rowSet v).map Sp.enc), .int .i64 0]) := by
    rw [sOfA_at (lk := fun _ => ofQ 0) (wf_ofP _) (by rfl) rfl, row_ofs v]; rfl
   have wS := wf_allS (l := (ordL l k n).take i) wall
   have lS := len_allS ((ordL l k n).take i) [allSp]
   have lTk : ((ordL l k n).take i).length ≤ 15 := by rw [List.length_take]; omega
   have lR := len_rowSet v
   simp only [List.length_cons, List.length_nil] at lS
   have mt : ks2 100000 meetP [.lst ((allS ((ordL l k n).take i) [allSp]).map Sp.enc), .lst ((rowSet v).map Sp.enc)] = some (.lst ((allS ((ordL l k n).take (i + 1)) [allSp]).map Sp.enc)) := by
    rw [htk, all_snoc]
    exact ks2_at wS (wf_rowSet v) (decide_eq_true (by omega)) (decide_eq_true (by omega))
   have eall : ((ordL l k n).take (i + 1)).all (rowI y) = (((ordL l k n).take i).all (rowI y) && rowI y v) := by rw [htk, List.all_append]; simp
   have eI : rowI y v = (rowT (rowK v) (y + 2 * rowC v) != rowN v) := rfl
   obtain ⟨S, hS⟩ : ∃ S, S = (allS ((ordL l k n).take i) [allSp]).map Sp.enc := ⟨_, rfl⟩
   obtain ⟨S', hS'⟩ : ∃ S, S = (allS ((ordL l k n).take (i + 1)) [allSp]).map Sp.enc := ⟨_, rfl⟩
   obtain ⟨T, hT⟩ : ∃ T, T = (rowSet v).map Sp.enc := ⟨_, rfl⟩
   obtain ⟨b, hb⟩ : ∃ b, b = ((decide (n = 0) || l.all (rowI y)) && ((ordL l k n).take i).all (rowI y)) := ⟨_, rfl⟩
   rw [← hS] at f13 mt
   rw [← hS'] at mt
   rw [← hT] at f1' mt
   rw [← hb] at f10
   have hb' : ((decide (n = 0) || l.all (rowI y)) && ((ordL l k n).take (i + 1)).all (rowI y)) = (b && rowI y v) := by rw [eall, hb, Bool.and_assoc]
   rw [eI] at hb'
   obtain ⟨kk, hkk⟩ : ∃ x, x = rowK v := ⟨_, rfl⟩
   obtain ⟨cc, hcc⟩ : ∃ x, x = rowC v := ⟨_, rfl⟩
   obtain ⟨nn, hnn⟩ : ∃ x, x = rowN v := ⟨_, rfl⟩
   rw [← hkk] at q2 w6 m1 f1' hb' hK
   rw [← hcc] at w3 w7 w8 o2 m1 f1' hb'
   rw [← hnn] at e3 f1' hb'
   obtain ⟨Q1, hQ1⟩ : ∃ x, x = ofQ 1 := ⟨_, rfl⟩
   obtain ⟨Q2, hQ2⟩ : ∃ x, x = ofQ ((cc : Int) : Rat) := ⟨_, rfl⟩
   have eP : (ofP (rowQ cc)) = ⟨[⟨Q1, 4⟩], Q2⟩ := by rw [hQ1, hQ2]; rfl
   unfold atQ at m1 f1'
   rw [eP] at m1 f1'
   rw [← hQ1] at o1
   rw [← hQ2] at o2
   simp only [At.enc, Po.enc, Pa.enc, Fr.enc, List.map_cons, List.map_nil] at o1 o2 m1 f1'
   have ez : ∀ z : Int, (z == 0) = decide (z = 0) := fun z => rfl
   obtain ⟨jj, hjj⟩ : ∃ x, x = (i + k) % l.length := ⟨_, rfl⟩
   rw [← hjj] at etm hm
   have hjje : l[jj]? = some u2 := by rw [hjj]; exact hu2
   have hu3e := getE hjje
   rcases hn01 with rfl | rfl
   ·have hv' : u = v := by rw [hv]; rfl
    subst hv'
    simp [f0, f7, f8, f9, f10, f11, f12, f13, f14, hil, hue, encZ, q1, q2, q3, e3, w3, w4, w5, w6, w7, w8, o1, o2, m1, f1', mt, hw, ivar, freeze_snoc, getA, getA0, setA, setA0, fillS, Tl22r_mu, Tl22r_fns]
    have hb0 := hb'
    cases b
    ·simp [f0, f7, f8, f9, f10, f11, f12, f13, f14, hil, hw, ivar, getA, getA0, setA, setA0, fillS, Tl22r_mu, Tl22r_fns]
     refine ⟨?_, by omega⟩
     exact ⟨i + 1, by omega, ⟨⟨_, rfl⟩, by simp [f0], by simp [f7], by simp [f8], by simp [f9], by simp [f11], by simp [f12]⟩, by rw [hb0]; simp [rowT] <;> exact eqNot _ _, by rw [← hS']; simp, by simp⟩
    ·rcases hK with rfl | rfl | rfl
     all_goals
      simp [f0, f7, f8, f9, f10, f11, f12, f13, f14, hil, hw, ivar, getA, getA0, setA, setA0, fillS, Tl22r_mu, Tl22r_fns]
      refine ⟨?_, by omega⟩
      exact ⟨i + 1, by omega, ⟨⟨_, rfl⟩, by simp [f0], by simp [f7], by simp [f8], by simp [f9], by simp [f11], by simp [f12]⟩, by rw [hb0]; simp [rowT] <;> exact eqNot _ _, by rw [← hS']; simp, by simp⟩
   ·have hv' : u2 = v := by rw [hv]; rfl
    subst hv'
    simp [f0, f7, f8, f9, f10, f11, f12, f13, f14, hil, hue, hu3e, hm, wik, etm, hl0, encZ, q1, q2, q3, e3, w3, w4, w5, w6, w7, w8, o1, o2, m1, f1', mt, hw, ivar, freeze_snoc, getA, getA0, setA, setA0, fillS, Tl22r_mu, Tl22r_fns]
    have hb0 := hb'
    cases b
    ·simp [f0, f7, f8, f9, f10, f11, f12, f13, f14, hil, hw, ivar, getA, getA0, setA, setA0, fillS, Tl22r_mu, Tl22r_fns]
     refine ⟨?_, by omega⟩
     exact ⟨i + 1, by omega, ⟨⟨_, rfl⟩, by simp [f0], by simp [f7], by simp [f8], by simp [f9], by simp [f11], by simp [f12]⟩, by rw [hb0]; simp [rowT] <;> exact eqNot _ _, by rw [← hS']; simp, by simp⟩
    ·rcases hK with rfl | rfl | rfl
     all_goals
      simp [f0, f7, f8, f9, f10, f11, f12, f13, f14, hil, hw, ivar, getA, getA0, setA, setA0, fillS, Tl22r_mu, Tl22r_fns]
      refine ⟨?_, by omega⟩
      exact ⟨i + 1, by omega, ⟨⟨_, rfl⟩, by simp [f0], by simp [f7], by simp [f8], by simp [f9], by simp [f11], by simp [f12]⟩, by rw [hb0]; simp [rowT] <;> exact eqNot _ _, by rw [← hS']; simp, by simp⟩
  ·have hil2 : i = l.length := by omega
   have hn01 : n = 0 ∨ n = 1 := by omega
   have hLen : (ordL l k n).length = l.length := by
    rcases hn01 with rfl | rfl
    ·rfl
    ·exact len_rotL l k
   have hall : allS (ordL l k n) [allSp] = allS l [allSp] := by
    rcases hn01 with rfl | rfl
    ·rfl
    ·exact all_perm (rotL_mem hkl)
   have hin : (ordL l k n).all (rowI y) = l.all (rowI y) := by
    rcases hn01 with rfl | rfl
    ·rfl
    ·rw [Bool.eq_iff_iff, List.all_eq_true, List.all_eq_true]
     constructor
     ·intro h v hv; exact h v ((rotL_mem hkl v).2 hv)
     ·intro h v hv; exact h v ((rotL_mem hkl v).1 hv)
   rw [hil2, ← hLen, List.take_length] at f10 f13
   rw [hall, ← hA] at f13
   rw [hin] at f10
   rcases hn01 with rfl | rfl
   ·simp [f0, f7, f8, f9, f10, f11, f12, f13, f14, hil, setE, ivar, Tl22r_mu, Tl22r_fns]
    have hw1 : IntKind.i64.wrap 1 = 1 := rfl
    rw [hw1]
    exact ⟨⟨1, by omega, ⟨⟨_, rfl⟩, by simp [f0], by simp [f7], by simp [f8], by simp [f9], by simp [f11], by simp⟩, by simp [f10]⟩, by decide⟩
   ·simp [f0, f7, f8, f9, f10, f11, f12, f13, f14, hil, setE, ivar, Tl22r_mu, Tl22r_fns]
    have hw1 : IntKind.i64.wrap 2 = 2 := rfl
    rw [hw1]
    exact ⟨⟨2, by omega, ⟨⟨_, rfl⟩, by simp [f0], by simp [f7], by simp [f8], by simp [f9], by simp [f11], by simp⟩, by simp [f10]⟩, by decide⟩
 ·have hn3 : n = 2 := by omega
  subst hn3
  have wA := wf_allS (l := l) wall
  have s1' : ss2 sameSs [.lst A, .lst A] = some (.bool true) := by rw [hA]; exact same_self _ wA
  have hyd : (-1000 ≤ y ∧ y ≤ 1000) ∧ (-1000 ≤ (2 : Int) ∧ (2 : Int) ≤ 1000) := by omega
  have o1 : sQOf [.int .i64 y, .int .i64 2] = some (ofQ (Rat.divInt y 2)).enc := oL hyd rfl
  have a1 : s1x hasP [.lst A, (ofQ (Rat.divInt y 2)).enc] = some (.bool (l.all (rowI y))) := by
   rw [hA, s1x_at wA (wf_ofQ _)]
   unfold hasP
   rw [all_has hyr]
  obtain ⟨Y, hY⟩ : ∃ Y, Y = ofQ (Rat.divInt y 2) := ⟨_, rfl⟩
  rw [← hY] at o1 a1
  simp only [Fr.enc] at o1 a1
  simp [f0, f7, f8, f9, f10, f11, f12, setE, s1', o1, a1, aw, fillS, Tl22r_mu, Tl22r_fns]
end Go.Proofs.YtepfpgnjpkcgmaaGreat
