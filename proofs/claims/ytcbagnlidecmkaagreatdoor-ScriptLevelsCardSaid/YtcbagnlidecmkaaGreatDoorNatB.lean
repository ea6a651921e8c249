/-
  What the library's numerals compute. No conditions beyond the lemmas' own hypotheses.
-/
import Derived.Test.YtcbagnlidecmkaaGreatDoorNatL
import Derived.Test.YtcbagnlidecmkaaGreatDoorNatA
import Derived.Test.YtcbagnlidecmkaaGreatDoorAbsThree
import Derived.Lib.Builder
import Derived.Lib.UnsafeStr
import Derived.RegionTactic
import Derived.WalkKit
set_option linter.unusedSimpArgs false
set_option linter.unnecessarySimpa false
set_option linter.unusedVariables false
set_option linter.constructorNameAsVariable false

/-
 strings.Builder at this seat: its methods, and what it holds.
-/
namespace Go.Proofs.YtcbagnlidecmkaaGreatDoor.Nn
open Go Go.RowKit Go.Abs
variable {base : Prot}
set_option maxRecDepth 20000
attribute [local simp] pureS touchV freezeL fuel shiftV
def IsBld (H : Heap) (b : Nat) (out : List UInt8) : Prop :=
 ∃ a buf, H[b]? = some (bldE 116 a buf) ∧ (a = .p .nilp ∨ a = .optr b 0 0 0) ∧ ((buf = .tight [] ∧ out = []) ∨ ∃ j ver, buf = .own j 0 out.length ver ∧ b < j ∧ H[j]? = some ⟨1, ver, false, out.map aB, 5⟩)
theorem IsBld.cc {H : Heap} {b : Nat} {out : List UInt8} (h : IsBld H b out) : ∃ buf, ccM 116 [.optr b 0 0 0] H = some (.p (.tup []), H.set b (bldE 116 (.optr b 0 0 0) buf)) ∧ b < H.length ∧
  ((buf = .tight [] ∧ out = []) ∨ ∃ j ver, buf = .own j 0 out.length ver ∧ b < j ∧ (H.set b (bldE 116 (.optr b 0 0 0) buf))[j]? = some ⟨1, ver, false, out.map aB, 5⟩) := by
 obtain ⟨a, buf, hb, ha, hbuf⟩ := h
 have hl := (List.getElem?_eq_some_iff.1 hb).1
 refine ⟨buf, ?_, hl, ?_⟩
 ·rcases ha with rfl | rfl
  ·exact ccM_fresh hb
  ·rw [ccM_used hb]
   congr 2
   apply List.ext_getElem?
   intro q
   by_cases hq : b = q
   ·subst hq; rw [List.getElem?_set_self hl, hb]
   ·rw [List.getElem?_set_ne hq]
 ·rcases hbuf with h | ⟨j, ver, h1, h2, h3⟩
  ·exact .inl h
  ·exact .inr ⟨j, ver, h1, h2, by rw [List.getElem?_set_ne (by omega)]; exact h3⟩
theorem IsBld.put {H2 : Heap} {b : Nat} {out : List UInt8} {j v : Nat} (hb : b < H2.length) (hbj : b < j) (hj : H2[j]? = some ⟨1, v, false, out.map aB, 5⟩) : IsBld (H2.set b (bldE 116 (.optr b 0 0 0) (.own j 0 out.length v))) b out :=
 ⟨_, _, List.getElem?_set_self hb, .inr rfl, .inr ⟨j, v, rfl, hbj, by rw [List.getElem?_set_ne (by omega)]; exact hj⟩⟩
end Go.Proofs.YtcbagnlidecmkaaGreatDoor.Nn

/-
 strings.Repeat of a nought, up to 19 times; slices.Backward.
-/
namespace Go.Proofs.YtcbagnlidecmkaaGreatDoor.Nn
open Go Go.Abs Go.Limbs
variable {base : Prot}
set_option maxRecDepth 20000
def eqO (a b : Option PVal) : Bool := match a, b with
 | some x, some y => eqP 5 x y
 | _, _ => false
theorem eqO_ok {a b : Option PVal} (h : eqO a b = true) : a = b := by
 unfold eqO at h
 split at h
 ·rw [eqP_ok _ _ _ h]
 ·cases h
end Go.Proofs.YtcbagnlidecmkaaGreatDoor.Nn

/-
 strings.Trim of digits; strings.TrimLeft of noughts; nat.Digits.
-/
namespace Go.Proofs.YtcbagnlidecmkaaGreatDoor.Nn
open Go Go.Abs Go.Limbs
variable {base : Prot}
set_option maxRecDepth 20000
def isD (b : UInt8) : Bool := decide (48 ≤ b.toNat ∧ b.toNat < 58)
def digTab : PVal := .agg ((List.range 256).map fun i => .bool (decide (48 ≤ i ∧ i < 58)))
def digE : Ent := ⟨256, 0, false, [.p digTab], 164⟩
def tenD : List UInt8 := [48, 49, 50, 51, 52, 53, 54, 55, 56, 57]
def sMake : List PVal → Option PVal
 | [.str s] => if s = tenD then some (.tup [digTab, .bool true]) else none
 | _ => none
theorem make_run : eqO (runP Tab.none 30 lf114 [.str tenD]) (some (.tup [digTab, .bool true])) = true := by kernel_rfl
theorem make_ok : FnOk Tryz.prog base 114 (pureS sMake) := by
 refine pure_of_run hmix Tab.none_ok globNone low114 30 fun args x hs => ?_
 unfold sMake at hs
 split at hs
 case h_2 => cases hs
 rename_i s
 split at hs
 case isFalse => cases hs
 rename_i h
 subst h
 cases hs
 exact eqO_ok make_run
section
attribute [local irreducible] vc
attribute [local simp] pureS touchV freezeL fuel shiftV
open Classical in
noncomputable def contM : List AVal → Heap → Option (AVal × Heap)
 | [.optr k 0 0 0, .p (.int .u8 c)], H => if H[k]? = some digE ∧ 0 ≤ c ∧ c < 256 then some (.p (.bool (decide (48 ≤ c ∧ c < 58))), H) else none
 | _, _ => none
theorem contM_at {H : Heap} {k : Nat} (h : H[k]? = some digE) (c : UInt8) : contM [.optr k 0 0 0, .p (.int .u8 c.toNat)] H = some (.p (.bool (isD c)), H) := by
 have := c.toNat_lt
 unfold contM
 simp only
 rw [if_pos ⟨h, by omega, by omega⟩]
 have e : decide ((48 : Int) ≤ c.toNat ∧ (c.toNat : Int) < 58) = isD c := by
  unfold isD
  apply decide_eq_decide.2
  omega
 rw [e]
theorem cont_ok : MuOk Tryz.prog base 131 contM := by
 refine own_of_vc hmix Tab.none_ok globNone low131 fun args H r H' hs hf => ?_
 unfold contM at hs
 split at hs
 case h_2 => cases hs
 rename_i k c
 split at hs
 case isFalse => cases hs
 rename_i hc
 obtain ⟨hk, h0, h1⟩ := hc
 obtain ⟨n, rfl⟩ := Int.eq_ofNat_of_zero_le h0
 cases hs
 refine ⟨by simp [lf131], ?_⟩
 have hn : n < 256 := by omega
 unfold digE digTab at hk
 have hn5 : n ≤ 255 := by omega
 have ht : List.take 1 (List.drop n (List.map (AVal.p ∘ fun i => PVal.bool (decide (48 ≤ i) && decide (i < 58))) (List.range 256))) = [.p (.bool (decide (48 ≤ n) && decide (n < 58)))] := by
  rw [List.drop_eq_getElem_cons (by simpa using hn)]
  simp
 have h48 : decide ((48 : Int) ≤ n) = decide (48 ≤ n) := decide_eq_decide.2 (by omega)
 have h58 : decide ((n : Int) < 58) = decide (n < 58) := decide_eq_decide.2 (by omega)
 simp [lf131, retQ, hk, hn, h1, hn5, ht, h48, h58]
noncomputable def Tas : Tab := Tab.none.own 131 contM
theorem Tas_ok : TabOk Tryz.prog base Tas := Tab.own_ok Tab.none_ok cont_ok
theorem Tas_mu (a : List AVal) (H : Heap) : Tas.mu 131 a H = contM a H := (rfl)
def dropR (s : List UInt8) : List UInt8 := (s.reverse.dropWhile isD).reverse
theorem dropR_snoc (s : List UInt8) (c : UInt8) : dropR (s ++ [c]) = if isD c then dropR s else s ++ [c] := by
 unfold dropR
 rw [List.reverse_append]
 simp only [List.reverse_cons, List.reverse_nil, List.nil_append, List.singleton_append, List.dropWhile_cons]
 split
 ·rfl
 ·simp
open Classical in
noncomputable def tlM : List AVal → Heap → Option (AVal × Heap)
 | [.p (.str s), .optr k 0 0 0], H => if H[k]? = some digE then some (.p (.str (s.dropWhile isD)), H) else none
 | _, _ => none
theorem tlM_at {H : Heap} {k : Nat} (h : H[k]? = some digE) (s : List UInt8) : tlM [.p (.str s), .optr k 0 0 0] H = some (.p (.str (s.dropWhile isD)), H) := by
 unfold tlM
 simp only
 rw [if_pos h]
open Classical in
noncomputable def trM : List AVal → Heap → Option (AVal × Heap)
 | [.p (.str s), .optr k 0 0 0], H => if H[k]? = some digE then some (.p (.str (dropR s)), H) else none
 | _, _ => none
theorem trM_at {H : Heap} {k : Nat} (h : H[k]? = some digE) (s : List UInt8) : trM [.p (.str s), .optr k 0 0 0] H = some (.p (.str (dropR s)), H) := by
 unfold trM
 simp only
 rw [if_pos h]
theorem tl_ok : MuOk Tryz.prog base 115 tlM := by
 refine own_of_vc hmix Tas_ok globNone low115 fun args H r H' hs hf => ?_
 unfold tlM at hs
 split at hs
 case h_2 => cases hs
 rename_i s k
 split at hs
 case isFalse => cases hs
 rename_i hk
 cases hs
 have hlen := (hf (.p (.str s)) (by simp) _ rfl).str
 unfold maxLen at hlen
 refine ⟨by simp [lf115], ?_⟩
 simp [lf115]
 simp only [lf115_B0, vc_block]
 refine loop_ind (fun fr H2 => ∃ z : List UInt8, H2 = H ∧ z.length ≤ s.length ∧ z.dropWhile isD = s.dropWhile isD ∧ fr 0 = .p (.str z) ∧ fr 1 = .optr k 0 0 0) (fun fr _ => match fr 0 with | .p (.str z) => z.length | _ => 0) ⟨s, rfl, Nat.le_refl _, rfl, by simp, by simp⟩ ?_
 rintro fr H2 ⟨z, rfl, hz, hd, h0, h1⟩
 match z, hz, hd, h0 with
 | [], hz, hd, h0 =>
  have hd' : s.dropWhile isD = [] := hd.symm
  simp [h0, retQ, hd']
 | c :: z, hz, hd, h0 =>
  simp only [List.length_cons] at hz
  have hl : (0 : Int) < (z.length : Int) + 1 := by omega
  have hl1 : (1 : Int) ≤ (z.length : Int) + 1 := by omega
  have hc := contM_at hk c
  cases hcd : isD c with
  | true =>
   rw [hcd] at hc
   rw [List.dropWhile_cons, hcd, if_pos rfl] at hd
   simp [h0, h1, hl, hl1, hc, Tas_mu]
   exact ⟨by omega, hd⟩
  | false =>
   rw [hcd] at hc
   rw [List.dropWhile_cons, hcd] at hd
   have hd' : s.dropWhile isD = c :: z := hd.symm
   simp [h0, h1, hl, hc, Tas_mu, retQ, hd']
theorem tr_ok : MuOk Tryz.prog base 116 trM := by
 refine own_of_vc hmix Tas_ok globNone low116 fun args H r H' hs hf => ?_
 unfold trM at hs
 split at hs
 case h_2 => cases hs
 rename_i s k
 split at hs
 case isFalse => cases hs
 rename_i hk
 cases hs
 have hlen := (hf (.p (.str s)) (by simp) _ rfl).str
 unfold maxLen at hlen
 refine ⟨by simp [lf116], ?_⟩
 simp [lf116]
 simp only [lf116_B0, vc_block]
 refine loop_ind (fun fr H2 => ∃ z : List UInt8, H2 = H ∧ z.length ≤ s.length ∧ dropR z = dropR s ∧ fr 0 = .p (.str z) ∧ fr 1 = .optr k 0 0 0) (fun fr _ => match fr 0 with | .p (.str z) => z.length | _ => 0) ⟨s, rfl, Nat.le_refl _, rfl, by simp, by simp⟩ ?_
 rintro fr H2 ⟨z, rfl, hz, hd, h0, h1⟩
 rcases List.eq_nil_or_concat z with rfl | ⟨z, c, rfl⟩
 ·have : dropR [] = [] := rfl
  rw [this] at hd
  simp [h0, retQ, ← hd]
 ·rw [List.concat_eq_append] at *
  simp only [List.length_append, List.length_cons, List.length_nil] at hz
  have hl : (0 : Int) < (z.length : Int) + 1 := by omega
  have hc := contM_at hk c
  have hw : IntKind.i64.wrap (z.length : Int) = (z.length : Int) := IntWalk.i64_in _ (by omega)
  have hl1 : (z.length : Int) ≤ (z.length : Int) + 1 := by omega
  rw [dropR_snoc] at hd
  cases hcd : isD c with
  | true =>
   rw [hcd] at hc hd
   rw [if_pos rfl] at hd
   simp [h0, h1, hl, hl1, hc, hw, Tas_mu]
   exact ⟨by omega, hd⟩
  | false =>
   rw [hcd] at hc hd
   have hd' : dropR s = z ++ [c] := hd.symm
   simp [h0, h1, hl, hc, hw, Tas_mu, retQ, hd']
noncomputable def Ttd : Tab := ((Tab.none.with 114 (pureS sMake)).own 116 trM).own 115 tlM
theorem Ttd_ok : TabOk Tryz.prog base Ttd := Tab.own_ok (Tab.own_ok (Tab.with_ok Tab.none_ok make_ok) tr_ok) tl_ok
theorem Ttd_make : Ttd.fn 114 = pureS sMake := (rfl)
theorem Ttd_none (a : List AVal) (H : Heap) : Ttd.mu 114 a H = none := (rfl)
theorem Ttd_r (a : List AVal) (H : Heap) : Ttd.mu 116 a H = trM a H := (rfl)
theorem Ttd_l (a : List AVal) (H : Heap) : Ttd.mu 115 a H = tlM a H := (rfl)
theorem allP_map : ∀ l : List PVal, allP (l.map AVal.p) = some l
 | [] => rfl
 | x :: r => by simp [allP, allP_map r]
def sTrimD : List PVal → Option PVal
 | [.str s, .str c] => if c = tenD then some (.str ((dropR s).dropWhile isD)) else none
 | _ => none
theorem sTrimD_at (s : List UInt8) : sTrimD [.str s, .str [48, 49, 50, 51, 52, 53, 54, 55, 56, 57]] = some (.str ((dropR s).dropWhile isD)) := by
 simp only [sTrimD]
 rw [if_pos (by rfl)]
set_option maxHeartbeats 1000000 in
theorem trimD_ok : FnOk Tryz.prog base 97 (pureS sTrimD) := by
 refine pure_of_vc hmix Ttd_ok globNone low97 fun args z hs hf => ?_
 unfold sTrimD at hs
 split at hs
 case h_2 => cases hs
 rename_i s c
 split at hs
 case isFalse => cases hs
 rename_i hc
 subst hc
 cases hs
 refine ⟨by simp [lf97], ?_⟩
 have hm : sMake [.str tenD] = some (.tup [digTab, .bool true]) := by simp only [sMake, if_true]
 have hE : [(⟨256, 0, false, [.p digTab], 164⟩ : Ent)][0]? = some digE := rfl
 have h1 := trM_at hE s
 have h2 := tlM_at hE (dropR s)
 obtain ⟨dt, hdt, hcl, hcc⟩ : ∃ dt, digTab = .agg dt ∧ dt.length = 256 ∧ ∀ x ∈ dt, ∃ b, x = .bool b := ⟨_, rfl, by simp, fun x hx => by
  obtain ⟨i, _, rfl⟩ := List.mem_map.1 hx
  exact ⟨_, rfl⟩⟩
 rw [hdt] at hm h1 h2 hE
 unfold tenD at hm ⊢
 by_cases hz : s = []
 ·subst hz
  have hd : dropR [] = [] := rfl
  simp [lf97, hd, binS]
 ·have he : s.isEmpty = false := by simpa using hz
  have hap : allP (dt.map AVal.p) = some dt := allP_map dt
  simp [lf97, binS, hz, he, hm, h1, h2, hcl, hap, Ttd_make, Ttd_none, Ttd_r, Ttd_l]
  rw [if_pos (fun x hx => by obtain ⟨b, rfl⟩ := hcc x hx; rfl)]
  simp [h1, h2, Ttd_r, Ttd_l]
theorem dw_all (p : UInt8 → Bool) : ∀ r : List UInt8, (r.dropWhile p).all p = r.all p
 | [] => rfl
 | x :: r => by
  rw [List.dropWhile_cons]
  cases h : p x with
  | true => simp [dw_all p r, h]
  | false => simp [h]
theorem dw_nil (p : UInt8 → Bool) : ∀ r : List UInt8, r.dropWhile p = [] ↔ r.all p = true
 | [] => by simp
 | x :: r => by
  rw [List.dropWhile_cons]
  cases h : p x with
  | true => simp [h]; simpa using dw_nil p r
  | false => simp [h]
theorem trim_nil (s : List UInt8) : (dropR s).dropWhile isD = [] ↔ s.all isD = true := by
 rw [dw_nil]
 unfold dropR
 rw [List.all_reverse, dw_all, List.all_reverse]
def digS (s : List UInt8) : Bool := !s.isEmpty && s.all isD
def sDig : List PVal → Option PVal
 | [.str s] => some (.bool (digS s))
 | _ => none
def Tdg : Tab := Tab.none.with 97 (pureS sTrimD)
theorem Tdg_ok : TabOk Tryz.prog base Tdg := Tab.with_ok Tab.none_ok trimD_ok
theorem Tdg_mu (f : FuncId) (a : List AVal) (H : Heap) : Tdg.mu f a H = none := (rfl)
theorem Tdg_fn : Tdg.fn 97 = pureS sTrimD := (rfl)
theorem digits_ok : FnOk Tryz.prog base 83 (pureS sDig) := by
 refine pure_of_vc hmix Tdg_ok globNone low83 fun args z hs hf => ?_
 unfold sDig at hs
 split at hs
 case h_2 => cases hs
 rename_i s
 cases hs
 refine ⟨by simp [lf83], ?_⟩
 have h1 := sTrimD_at s
 by_cases hz : s = []
 ·subst hz
  simp [lf83, binS, digS]
 ·obtain ⟨t, ht⟩ : ∃ t, t = (dropR s).dropWhile isD := ⟨_, rfl⟩
  rw [← ht] at h1
  have hn := trim_nil s
  rw [← ht] at hn
  have he : s.isEmpty = false := by simpa using hz
  by_cases h0 : t = []
  ·have := hn.1 h0
   simp [lf83, binS, hz, h1, h0, digS, he, this, Tdg_mu, Tdg_fn]
  ·have ha : s.all isD = false := by
    cases h : s.all isD with
    | true => exact absurd (hn.2 h) h0
    | false => rfl
   simp [lf83, binS, hz, h1, h0, digS, he, ha, Tdg_mu, Tdg_fn]
end
end Go.Proofs.YtcbagnlidecmkaaGreatDoor.Nn
