/-
  What the reference's functions of sums compute, for at most a million parts.
-/
import Derived.Test.YtepfpgnjpkcgmaaGreatLinD
import Derived.Test.YtepfpgnjpkcgmaaGreatRatM
set_option linter.unusedSimpArgs false
set_option linter.unnecessarySimpa false
set_option linter.unusedVariables false
set_option linter.constructorNameAsVariable false

/-
 The reference's sums: what is one, a term's number, without a term, the same.
-/
namespace Go.Proofs.YtepfpgnjpkcgmaaGreat
open Go Go.Abs Go.Limbs
variable {base : Prot}
set_option maxRecDepth 20000
attribute [local irreducible] vc
attribute [local simp] pureS touchV freezeL fuel shiftV u64 au
def Trz : Tab := ((Tab.none.with 82 (pureS sQOf)).with 50 (pureS (f1 boolF))).with 29 (pureS (f2 sameP))
theorem Trz_ok : TabOk Tryz.prog base Trz := Tab.with_ok (Tab.with_ok (Tab.with_ok Tab.none_ok rofR_ok) rvalidR_ok) rsame_ok
theorem Trz_mu (f : FuncId) (a : List AVal) (H : Heap) : Trz.mu f a H = none := (rfl)
theorem Trz_fns : Trz.fn 82 = (pureS sQOf) ∧ Trz.fn 50 = (pureS (f1 boolF)) ∧ Trz.fn 29 = (pureS (f2 sameP)) := ⟨rfl, rfl, rfl⟩
theorem z1_eq : Rat.divInt 0 1 = 0 := by decide +kernel
theorem rzero_ok : FnOk Tryz.prog base 91 (pureS sQZero) := by
 refine pure_of_vc hmix Trz_ok globNone low91 fun args z hs hf => ?_
 unfold sQZero at hs
 split at hs
 case h_2 => cases hs
 cases hs
 refine ⟨by simp [lf91], ?_⟩
 have o1 := ofR (n := 0) (d := 1) (by decide)
 rw [z1_eq] at o1
 obtain ⟨x, hx⟩ : ∃ x, x = ofQ 0 := ⟨_, rfl⟩
 rw [← hx] at o1 ⊢
 simp only [Fr.enc] at o1 ⊢
 simp [lf91, o1, Trz_mu, Trz_fns]
end Go.Proofs.YtepfpgnjpkcgmaaGreat

/-
 The reference's sums: without a term, multiples.
-/
namespace Go.Proofs.YtepfpgnjpkcgmaaGreat
open Go Go.Abs Go.Limbs
variable {base : Prot}
set_option maxRecDepth 20000
attribute [local irreducible] vc
attribute [local simp] pureS touchV freezeL fuel shiftV u64 au
end Go.Proofs.YtepfpgnjpkcgmaaGreat

/-
 The reference's sums: sums; what a term is where a sum is 0.
-/
namespace Go.Proofs.YtepfpgnjpkcgmaaGreat
open Go Go.Abs Go.Limbs
variable {base : Prot}
set_option maxRecDepth 20000
attribute [local irreducible] vc
attribute [local simp] pureS touchV freezeL fuel shiftV u64 au
end Go.Proofs.YtepfpgnjpkcgmaaGreat

/-
 The reference's sums: sums of any; what a term is where a sum is 0; what is told of ids, and values.
-/
namespace Go.Proofs.YtepfpgnjpkcgmaaGreat
open Go Go.Abs Go.Limbs
variable {base : Prot}
set_option maxRecDepth 20000
attribute [local irreducible] vc
attribute [local simp] pureS touchV freezeL fuel shiftV u64 au
structure Bd where
 id : Int
 x : Fr
def Bd.enc (b : Bd) : PVal := .agg [.int .i64 b.id, .bool b.x.s, .lst (b.x.n.map u64), .lst (b.x.d.map u64)]
def wfB (l : List Bd) : Prop := ∀ b ∈ l, b.x.wf
def decBd : PVal → Option Bd
 | .agg [.int .i64 t, .bool s, .lst xs, .lst ys] => match decU xs, decU ys with | some l, some m => some ⟨t, ⟨s, l, m⟩⟩ | _, _ => none
 | _ => none
theorem decBd_enc {b : Bd} (h : b.x.wf) : decBd b.enc = some b := by simp only [decBd, Bd.enc, decU_map h.1, decU_map h.2]
theorem decBd_some {v : PVal} {b : Bd} (h : decBd v = some b) : v = b.enc ∧ b.x.wf := by
 unfold decBd at h
 split at h
 ·rename_i t s xs ys
  split at h
  ·rename_i l m hl hm
   cases h
   obtain ⟨rfl, wl⟩ := decU_some hl
   obtain ⟨rfl, wm⟩ := decU_some hm
   exact ⟨rfl, wl, wm⟩
  ·cases h
 ·cases h
def decBs : List PVal → Option (List Bd)
 | [] => some []
 | v :: r => match decBd v, decBs r with | some x, some l => some (x :: l) | _, _ => none
theorem decBs_enc : ∀ {l : List Bd}, wfB l → decBs (l.map Bd.enc) = some l
 | [], _ => rfl
 | x :: r, h => by simp only [List.map_cons, decBs, decBd_enc (h x (by simp)), decBs_enc (l := r) (fun y hy => h y (by simp [hy]))]
theorem decBs_some : ∀ {vs : List PVal} {l : List Bd}, decBs vs = some l → vs = l.map Bd.enc ∧ wfB l
 | [], l, h => by cases h; exact ⟨rfl, fun x hx => by cases hx⟩
 | v :: r, l, h => by
  unfold decBs at h
  split at h
  ·rename_i x m hx hm
   cases h
   obtain ⟨rfl, wx⟩ := decBd_some hx
   obtain ⟨rfl, wm⟩ := decBs_some hm
   refine ⟨rfl, fun y hy => ?_⟩
   rcases List.mem_cons.1 hy with rfl | hy
   ·exact wx
   ·exact wm y hy
  ·cases h
def lookB : List Bd → Int → Fr
 | [], _ => ofQ 0
 | b :: r, i => if b.id = i then b.x else lookB r i
theorem wf_lookB : ∀ {l : List Bd} {i : Int}, wfB l → (lookB l i).wf
 | [], _, _ => wf_ofQ 0
 | b :: r, i, h => by
  unfold lookB
  split
  ·exact h b (by simp)
  ·exact wf_lookB fun y hy => h y (by simp [hy])
theorem lookB_drop {i : Int} {l : List Bd} {k : Nat} {b : Bd} (hb : l[k]? = some b) : lookB (l.drop k) i = if b.id = i then b.x else lookB (l.drop (k + 1)) i := by
 have hi := (List.getElem?_eq_some_iff.1 hb).1
 rw [List.drop_eq_getElem_cons hi, getE hb]
 rfl
def sLook : List PVal → Option PVal
 | [.lst vs, .int .i64 i] => match decBs vs with | some l => some (lookB l i).enc | none => none
 | _ => none
theorem sLook_at {l : List Bd} {i : Int} (h : wfB l) : sLook [.lst (l.map Bd.enc), .int .i64 i] = some (lookB l i).enc := by simp only [sLook, decBs_enc h]
def Trlk : Tab := Tab.none.with 91 (pureS sQZero)
theorem Trlk_ok : TabOk Tryz.prog base Trlk := Tab.with_ok Tab.none_ok rzero_ok
theorem Trlk_mu (f : FuncId) (a : List AVal) (H : Heap) : Trlk.mu f a H = none := (rfl)
theorem Trlk_fns : Trlk.fn 91 = (pureS sQZero) := (rfl)
theorem rlook_ok : FnOk Tryz.prog base 25 (pureS sLook) := by
 refine pure_of_vc hmix Trlk_ok globNone low25 fun args z hs hf => ?_
 unfold sLook at hs
 split at hs
 case h_2 => cases hs
 rename_i vs n
 split at hs
 case h_2 => cases hs
 rename_i l hl
 obtain ⟨rfl, wl⟩ := decBs_some hl
 cases hs
 have hlen := (hf (.lst (l.map Bd.enc)) (by simp)).lst.1
 unfold maxLen at hlen
 simp only [List.length_map] at hlen
 refine ⟨by simp [lf25], ?_⟩
 have v2 := sQZero_nil
 obtain ⟨r, hr⟩ : ∃ r, r = lookB l n := ⟨_, rfl⟩
 rw [← hr]
 obtain ⟨z0, hz0⟩ : ∃ z0, z0 = ofQ 0 := ⟨_, rfl⟩
 rw [← hz0] at v2
 simp only [Fr.enc] at v2 ⊢
 simp [lf25]
 simp only [lf25_B0, vc_block]
 refine loop_ind (fun fr H => ∃ i : Nat, H = [⟨3, 0, false, [.agg [.p (.bool false), .tight [], .tight []]], 25⟩] ∧ i ≤ l.length ∧ r = lookB (l.drop i) n ∧ fr 0 = .p (.lst (l.map Bd.enc)) ∧ fr 1 = .p (.int .i64 n) ∧ fr 4 = .optr 0 0 0 0 ∧ fr 5 = .p (.int .i64 i)) (fun fr _ => l.length - ivar (fr 5))
  ⟨0, by simp, by omega, hr, by simp, by simp, by simp, by simp⟩ ?_
 rintro fr H ⟨i, rfl, hi, hri, f0, f1', f4', f5⟩
 by_cases h1 : i < l.length
 ·obtain ⟨b, hb⟩ : ∃ b, l[i]? = some b := ⟨_, List.getElem?_eq_getElem h1⟩
  have hbe := getE hb
  have hw := wrap_succ (i := i) (by omega)
  rw [lookB_drop hb] at hri
  by_cases ht : b.id = n
  ·rw [if_pos ht] at hri
   simp [f0, f1', f4', f5, h1, hbe, ht, hri, Bd.enc, Trlk_mu, Trlk_fns]
  ·rw [if_neg ht] at hri
   have ht2 : (b.id == n) = false := by simp [ht]
   simp [f0, f1', f4', f5, h1, hbe, ht2, hw, ivar, Bd.enc, Trlk_mu, Trlk_fns]
   exact ⟨⟨i + 1, by omega, hri, by omega⟩, by omega⟩
 ·have hil : i = l.length := by omega
  rw [hil, List.drop_length] at hri
  have : r = z0 := by rw [hri, hz0]; rfl
  rw [this]
  simp [f0, f1', f4', f5, h1, v2, Trlk_mu, Trlk_fns]
end Go.Proofs.YtepfpgnjpkcgmaaGreat

/-
 law8: the reference's values; what is told of ids.
-/
namespace Go.Proofs.YtepfpgnjpkcgmaaGreat
open Go Go.Abs Go.Limbs
variable {base : Prot}
set_option maxRecDepth 20000
attribute [local irreducible] vc
attribute [local simp] pureS touchV freezeL fuel shiftV u64 au
end Go.Proofs.YtepfpgnjpkcgmaaGreat
