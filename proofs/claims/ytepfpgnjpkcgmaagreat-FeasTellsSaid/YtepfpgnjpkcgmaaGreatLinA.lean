/-
  Sums as pure values. No conditions.
-/
import Derived.Test.YtepfpgnjpkcgmaaGreatRatG
import Derived.Test.YtepfpgnjpkcgmaaGreatRatD
set_option linter.unusedSimpArgs false
set_option linter.unnecessarySimpa false
set_option linter.unusedVariables false
set_option linter.constructorNameAsVariable false

/-
 Sums as pure values: what is one, sums, multiples, parts, what one term is, values.
-/
namespace Go.Proofs.YtepfpgnjpkcgmaaGreat
open Go Go.Abs Go.Limbs
set_option maxRecDepth 20000
structure Pa where
 c : Fr
 t : Int
structure Po where
 ps : List Pa
 c : Fr
def Pa.wf (x : Pa) : Prop := x.c.wf
def Pa.enc (x : Pa) : PVal := .agg [.bool x.c.s, .lst (x.c.n.map u64), .lst (x.c.d.map u64), .int .i64 x.t]
def wfPs (l : List Pa) : Prop := ∀ x ∈ l, x.wf
def Po.wf (p : Po) : Prop := wfPs p.ps ∧ p.c.wf
def Po.enc (p : Po) : PVal := .agg [.lst (p.ps.map Pa.enc), .bool p.c.s, .lst (p.c.n.map u64), .lst (p.c.d.map u64)]
def decPa : PVal → Option Pa
 | .agg [.bool s, .lst xs, .lst ys, .int .i64 t] => match decU xs, decU ys with | some l, some m => some ⟨⟨s, l, m⟩, t⟩ | _, _ => none
 | _ => none
theorem decPa_enc {x : Pa} (h : x.wf) : decPa x.enc = some x := by simp only [decPa, Pa.enc, decU_map h.1, decU_map h.2]
theorem decPa_some {v : PVal} {x : Pa} (h : decPa v = some x) : v = x.enc ∧ x.wf := by
 unfold decPa at h
 split at h
 ·rename_i s xs ys t
  split at h
  ·rename_i l m hl hm
   cases h
   obtain ⟨rfl, wl⟩ := decU_some hl
   obtain ⟨rfl, wm⟩ := decU_some hm
   exact ⟨rfl, wl, wm⟩
  ·cases h
 ·cases h
def decPs : List PVal → Option (List Pa)
 | [] => some []
 | v :: r => match decPa v, decPs r with | some x, some l => some (x :: l) | _, _ => none
theorem decPs_enc : ∀ {l : List Pa}, wfPs l → decPs (l.map Pa.enc) = some l
 | [], _ => rfl
 | x :: r, h => by simp only [List.map_cons, decPs, decPa_enc (h x (by simp)), decPs_enc (l := r) (fun y hy => h y (by simp [hy]))]
theorem decPs_some : ∀ {vs : List PVal} {l : List Pa}, decPs vs = some l → vs = l.map Pa.enc ∧ wfPs l
 | [], l, h => by cases h; exact ⟨rfl, fun x hx => by cases hx⟩
 | v :: r, l, h => by
  unfold decPs at h
  split at h
  ·rename_i x m hx hm
   cases h
   obtain ⟨rfl, wx⟩ := decPa_some hx
   obtain ⟨rfl, wm⟩ := decPs_some hm
   refine ⟨rfl, fun y hy => ?_⟩
   rcases List.mem_cons.1 hy with rfl | hy
   ·exact wx
   ·exact wm y hy
  ·cases h
def decPo : PVal → Option Po
 | .agg [.lst vs, .bool s, .lst xs, .lst ys] => match decPs vs, decU xs, decU ys with | some ps, some l, some m => some ⟨ps, ⟨s, l, m⟩⟩ | _, _, _ => none
 | _ => none
theorem decPo_enc {p : Po} (h : p.wf) : decPo p.enc = some p := by simp only [decPo, Po.enc, decPs_enc h.1, decU_map h.2.1, decU_map h.2.2]
theorem decPo_some {v : PVal} {p : Po} (h : decPo v = some p) : v = p.enc ∧ p.wf := by
 unfold decPo at h
 split at h
 ·rename_i vs s xs ys
  split at h
  ·rename_i ps l m hp hl hm
   cases h
   obtain ⟨rfl, wp⟩ := decPs_some hp
   obtain ⟨rfl, wl⟩ := decU_some hl
   obtain ⟨rfl, wm⟩ := decU_some hm
   exact ⟨rfl, wp, wl, wm⟩
  ·cases h
 ·cases h
def g1 (g : Po → PVal) : List PVal → Option PVal
 | [a] => match decPo a with | some p => some (g p) | none => none
 | _ => none
def g2 (g : Po → Po → PVal) : List PVal → Option PVal
 | [a, b] => match decPo a, decPo b with | some p, some q => some (g p q) | _, _ => none
 | _ => none
def gi (g : Po → Int → PVal) : List PVal → Option PVal
 | [a, .int .i64 t] => match decPo a with | some p => some (g p t) | _ => none
 | _ => none
theorem g1_at {g : Po → PVal} {p : Po} (h : p.wf) : g1 g [p.enc] = some (g p) := by simp only [g1, decPo_enc h]
theorem g2_at {g : Po → Po → PVal} {p q : Po} (h : p.wf) (h2 : q.wf) : g2 g [p.enc, q.enc] = some (g p q) := by simp only [g2, decPo_enc h, decPo_enc h2]
theorem gi_at {g : Po → Int → PVal} {p : Po} {t : Int} (h : p.wf) : gi g [p.enc, .int .i64 t] = some (g p t) := by simp only [gi, decPo_enc h]
theorem g1_some {g : Po → PVal} {args : List PVal} {z : PVal} (h : g1 g args = some z) : ∃ p : Po, p.wf ∧ args = [p.enc] ∧ z = g p := by
 unfold g1 at h
 split at h
 ·split at h
  ·rename_i p hp
   obtain ⟨rfl, w⟩ := decPo_some hp
   cases h
   exact ⟨p, w, rfl, rfl⟩
  ·cases h
 ·cases h
theorem g2_some {g : Po → Po → PVal} {args : List PVal} {z : PVal} (h : g2 g args = some z) : ∃ p q : Po, p.wf ∧ q.wf ∧ args = [p.enc, q.enc] ∧ z = g p q := by
 unfold g2 at h
 split at h
 ·split at h
  ·rename_i p q hp hq
   obtain ⟨rfl, w⟩ := decPo_some hp
   obtain ⟨rfl, w2⟩ := decPo_some hq
   cases h
   exact ⟨p, q, w, w2, rfl, rfl⟩
  ·cases h
 ·cases h
theorem gi_some {g : Po → Int → PVal} {args : List PVal} {z : PVal} (h : gi g args = some z) : ∃ (p : Po) (t : Int), p.wf ∧ args = [p.enc, .int .i64 t] ∧ z = g p t := by
 unfold gi at h
 split at h
 ·split at h
  ·rename_i p hp
   obtain ⟨rfl, w⟩ := decPo_some hp
   cases h
   exact ⟨p, _, w, rfl, rfl⟩
  ·cases h
 ·cases h
def Po.few (p : Po) : Bool := decide (p.ps.length ≤ 1000000)
def gis (g : Po → Int → PVal) : List PVal → Option PVal
 | [a, .int .i64 t] => match decPo a with | some p => if p.few = true then some (g p t) else none | _ => none
 | _ => none
theorem few_le {p : Po} (h : p.few = true) : p.ps.length ≤ 1000000 := of_decide_eq_true h
theorem gis_at {g : Po → Int → PVal} {p : Po} {t : Int} (h : p.wf) (f1 : p.few = true) : gis g [p.enc, .int .i64 t] = some (g p t) := by simp only [gis, decPo_enc h, f1, if_true]
theorem gis_some {g : Po → Int → PVal} {args : List PVal} {z : PVal} (h : gis g args = some z) : ∃ (p : Po) (t : Int), p.wf ∧ p.few = true ∧ args = [p.enc, .int .i64 t] ∧ z = g p t := by
 unfold gis at h
 split at h
 ·split at h
  ·rename_i p hp
   obtain ⟨rfl, w⟩ := decPo_some hp
   split at h
   ·cases h; exact ⟨p, _, w, by assumption, rfl, rfl⟩
   ·cases h
  ·cases h
 ·cases h
def okParts : Int → List Pa → Bool
 | _, [] => true
 | l, x :: r => decide (l < x.t) && x.c.ok && !decide (x.c.n = []) && okParts x.t r
def Po.ok (p : Po) : Bool := okParts (-1) p.ps && p.c.ok
theorem sign_nil {x : Fr} (h : x.ok = true) : (signF x == 0) = decide (x.n = []) := by
 obtain ⟨q, hq, rfl⟩ := Fr.ok_of h
 rw [signF_num hq]
 have e : ((ofQ q).n = []) ↔ q = 0 := by
  show limbs q.num.natAbs = [] ↔ q = 0
  rw [limbs_eq_nil, Int.natAbs_eq_zero, Rat.num_eq_zero]
 rw [show decide ((ofQ q).n = []) = decide (q = 0) from decide_eq_decide.2 e]
 rw [Bool.eq_iff_iff, beq_iff_eq, decide_eq_true_eq]
 exact cmpQ_zero_iff
def zPo : Po := ⟨[], zF⟩
theorem wf_zPo : zPo.wf := ⟨fun x hx => (by cases hx), wf_zF⟩
def okPo (p : Po) : PVal := .bool p.ok
def placeF (t : Int) : List Pa → Option Nat
 | [] => none
 | x :: l => if x.t = t then some 0 else (match placeF t l with | some i => some (i + 1) | none => none)
def findF (t : Int) : List Pa → Option Fr
 | [] => none
 | x :: l => if x.t = t then some x.c else findF t l
def dropF (t : Int) : List Pa → List Pa
 | [] => []
 | x :: l => if x.t = t then l else x :: dropF t l
def coefPo (p : Po) (t : Int) : Fr := match findF t p.ps with | some c => if p.ok then c else ofQ 0 | none => ofQ 0
def withoutPo (p : Po) (t : Int) : Po := ⟨dropF t p.ps, p.c⟩
def sumF (lk : Int → Fr) : List Pa → Fr → Fr × Nat
 | [], s => (s, 0)
 | x :: l, s => if (mulF x.c (lk x.t)).2 = 0 then (if (addF s (mulF x.c (lk x.t)).1).2 = 0 then sumF lk l (addF s (mulF x.c (lk x.t)).1).1 else (zF, 4)) else (zF, 4)
def valuePo (lk : Int → Fr) (p : Po) : Fr × Nat :=
 if p.ok && p.ps.all (fun x => (lk x.t).ok) then sumF lk p.ps p.c else (zF, 1)
instance : DecidableEq Fr := fun x y => if h : x.s = y.s ∧ x.n = y.n ∧ x.d = y.d then .isTrue (by cases x; cases y; obtain ⟨a, b, c⟩ := h; simp_all) else .isFalse (fun e => h (by rw [e]; exact ⟨rfl, rfl, rfl⟩))
instance : DecidableEq Pa := fun x y => if h : x.c = y.c ∧ x.t = y.t then .isTrue (by cases x; cases y; obtain ⟨a, b⟩ := h; simp_all) else .isFalse (fun e => h (by rw [e]; exact ⟨rfl, rfl⟩))
instance : DecidableEq Po := fun x y => if h : x.ps = y.ps ∧ x.c = y.c then .isTrue (by cases x; cases y; obtain ⟨a, b⟩ := h; simp_all) else .isFalse (fun e => h (by rw [e]; exact ⟨rfl, rfl⟩))
def samePo (p q : Po) : PVal := .bool (decide (p = q))
end Go.Proofs.YtepfpgnjpkcgmaaGreat
