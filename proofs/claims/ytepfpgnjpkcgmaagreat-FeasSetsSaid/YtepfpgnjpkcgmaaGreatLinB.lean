/-
  Sums as pure values. No conditions. The lowered code of linear, alike, law8 and the reference's sums, each equal to what the program's form lowers to. No conditions.
-/
import Derived.Test.YtepfpgnjpkcgmaaGreatRatG
import Derived.Test.YtepfpgnjpkcgmaaGreatRatD
import Derived.Test.YtepfpgnjpkcgmaaGreatAbsTwo
import Derived.Test.YtepfpgnjpkcgmaaGreatProg
import Derived.Test.YtepfpgnjpkcgmaaGreatNatA
import Derived.KernelRfl
set_option linter.unusedSimpArgs false
set_option linter.unnecessarySimpa false
set_option linter.unusedVariables false
set_option linter.constructorNameAsVariable false

/-
 Sums as pure values: what is one, sums, multiples, parts, what one term is, values.
-/
namespace Go.Proofs.YtepfpgnjpkcgmaaGreat
open Go Go.Abs Go.Limbs
set_option maxRecDepth 20000
structure Pa where
 c : Fr
 t : Int
structure Po where
 ps : List Pa
 c : Fr
def Pa.wf (x : Pa) : Prop := x.c.wf
def Pa.enc (x : Pa) : PVal := .agg [.bool x.c.s, .lst (x.c.n.map u64), .lst (x.c.d.map u64), .int .i64 x.t]
def wfPs (l : List Pa) : Prop := ∀ x ∈ l, x.wf
def Po.wf (p : Po) : Prop := wfPs p.ps ∧ p.c.wf
def Po.enc (p : Po) : PVal := .agg [.lst (p.ps.map Pa.enc), .bool p.c.s, .lst (p.c.n.map u64), .lst (p.c.d.map u64)]
def decPa : PVal → Option Pa
 | .agg [.bool s, .lst xs, .lst ys, .int .i64 t] => match decU xs, decU ys with | some l, some m => some ⟨⟨s, l, m⟩, t⟩ | _, _ => none
 | _ => none
theorem decPa_enc {x : Pa} (h : x.wf) : decPa x.enc = some x := by simp only [decPa, Pa.enc, decU_map h.1, decU_map h.2]
theorem decPa_some {v : PVal} {x : Pa} (h : decPa v = some x) : v = x.enc ∧ x.wf := by
 unfold decPa at h
 split at h
 ·rename_i s xs ys t
  split at h
  ·rename_i l m hl hm
   cases h
   obtain ⟨rfl, wl⟩ := decU_some hl
   obtain ⟨rfl, wm⟩ := decU_some hm
   exact ⟨rfl, wl, wm⟩
  ·cases h
 ·cases h
def decPs : List PVal → Option (List Pa)
 | [] => some []
 | v :: r => match decPa v, decPs r with | some x, some l => some (x :: l) | _, _ => none
theorem decPs_enc : ∀ {l : List Pa}, wfPs l → decPs (l.map Pa.enc) = some l
 | [], _ => rfl
 | x :: r, h => by simp only [List.map_cons, decPs, decPa_enc (h x (by simp)), decPs_enc (l := r) (fun y hy => h y (by simp [hy]))]
theorem decPs_some : ∀ {vs : List PVal} {l : List Pa}, decPs vs = some l → vs = l.map Pa.enc ∧ wfPs l
 | [], l, h => by cases h; exact ⟨rfl, fun x hx => by cases hx⟩
 | v :: r, l, h => by
  unfold decPs at h
  split at h
  ·rename_i x m hx hm
   cases h
   obtain ⟨rfl, wx⟩ := decPa_some hx
   obtain ⟨rfl, wm⟩ := decPs_some hm
   refine ⟨rfl, fun y hy => ?_⟩
   rcases List.mem_cons.1 hy with rfl | hy
   ·exact wx
   ·exact wm y hy
  ·cases h
def decPo : PVal → Option Po
 | .agg [.lst vs, .bool s, .lst xs, .lst ys] => match decPs vs, decU xs, decU ys with | some ps, some l, some m => some ⟨ps, ⟨s, l, m⟩⟩ | _, _, _ => none
 | _ => none
theorem decPo_enc {p : Po} (h : p.wf) : decPo p.enc = some p := by simp only [decPo, Po.enc, decPs_enc h.1, decU_map h.2.1, decU_map h.2.2]
theorem decPo_some {v : PVal} {p : Po} (h : decPo v = some p) : v = p.enc ∧ p.wf := by
 unfold decPo at h
 split at h
 ·rename_i vs s xs ys
  split at h
  ·rename_i ps l m hp hl hm
   cases h
   obtain ⟨rfl, wp⟩ := decPs_some hp
   obtain ⟨rfl, wl⟩ := decU_some hl
   obtain ⟨rfl, wm⟩ := decU_some hm
   exact ⟨rfl, wp, wl, wm⟩
  ·cases h
 ·cases h
def g1 (g : Po → PVal) : List PVal → Option PVal
 | [a] => match decPo a with | some p => some (g p) | none => none
 | _ => none
def g2 (g : Po → Po → PVal) : List PVal → Option PVal
 | [a, b] => match decPo a, decPo b with | some p, some q => some (g p q) | _, _ => none
 | _ => none
def gi (g : Po → Int → PVal) : List PVal → Option PVal
 | [a, .int .i64 t] => match decPo a with | some p => some (g p t) | _ => none
 | _ => none
theorem g1_at {g : Po → PVal} {p : Po} (h : p.wf) : g1 g [p.enc] = some (g p) := by simp only [g1, decPo_enc h]
theorem g2_at {g : Po → Po → PVal} {p q : Po} (h : p.wf) (h2 : q.wf) : g2 g [p.enc, q.enc] = some (g p q) := by simp only [g2, decPo_enc h, decPo_enc h2]
theorem gi_at {g : Po → Int → PVal} {p : Po} {t : Int} (h : p.wf) : gi g [p.enc, .int .i64 t] = some (g p t) := by simp only [gi, decPo_enc h]
theorem g1_some {g : Po → PVal} {args : List PVal} {z : PVal} (h : g1 g args = some z) : ∃ p : Po, p.wf ∧ args = [p.enc] ∧ z = g p := by
 unfold g1 at h
 split at h
 ·split at h
  ·rename_i p hp
   obtain ⟨rfl, w⟩ := decPo_some hp
   cases h
   exact ⟨p, w, rfl, rfl⟩
  ·cases h
 ·cases h
theorem g2_some {g : Po → Po → PVal} {args : List PVal} {z : PVal} (h : g2 g args = some z) : ∃ p q : Po, p.wf ∧ q.wf ∧ args = [p.enc, q.enc] ∧ z = g p q := by
 unfold g2 at h
 split at h
 ·split at h
  ·rename_i p q hp hq
   obtain ⟨rfl, w⟩ := decPo_some hp
   obtain ⟨rfl, w2⟩ := decPo_some hq
   cases h
   exact ⟨p, q, w, w2, rfl, rfl⟩
  ·cases h
 ·cases h
theorem gi_some {g : Po → Int → PVal} {args : List PVal} {z : PVal} (h : gi g args = some z) : ∃ (p : Po) (t : Int), p.wf ∧ args = [p.enc, .int .i64 t] ∧ z = g p t := by
 unfold gi at h
 split at h
 ·split at h
  ·rename_i p hp
   obtain ⟨rfl, w⟩ := decPo_some hp
   cases h
   exact ⟨p, _, w, rfl, rfl⟩
  ·cases h
 ·cases h
def Po.few (p : Po) : Bool := decide (p.ps.length ≤ 1000000)
def gis (g : Po → Int → PVal) : List PVal → Option PVal
 | [a, .int .i64 t] => match decPo a with | some p => if p.few = true then some (g p t) else none | _ => none
 | _ => none
theorem few_le {p : Po} (h : p.few = true) : p.ps.length ≤ 1000000 := of_decide_eq_true h
theorem gis_at {g : Po → Int → PVal} {p : Po} {t : Int} (h : p.wf) (f1 : p.few = true) : gis g [p.enc, .int .i64 t] = some (g p t) := by simp only [gis, decPo_enc h, f1, if_true]
theorem gis_some {g : Po → Int → PVal} {args : List PVal} {z : PVal} (h : gis g args = some z) : ∃ (p : Po) (t : Int), p.wf ∧ p.few = true ∧ args = [p.enc, .int .i64 t] ∧ z = g p t := by
 unfold gis at h
 split at h
 ·split at h
  ·rename_i p hp
   obtain ⟨rfl, w⟩ := decPo_some hp
   split at h
   ·cases h; exact ⟨p, _, w, by assumption, rfl, rfl⟩
   ·cases h
  ·cases h
 ·cases h
def okParts : Int → List Pa → Bool
 | _, [] => true
 | l, x :: r => decide (l < x.t) && x.c.ok && !decide (x.c.n = []) && okParts x.t r
def Po.ok (p : Po) : Bool := okParts (-1) p.ps && p.c.ok
theorem sign_nil {x : Fr} (h : x.ok = true) : (signF x == 0) = decide (x.n = []) := by
 obtain ⟨q, hq, rfl⟩ := Fr.ok_of h
 rw [signF_num hq]
 have e : ((ofQ q).n = []) ↔ q = 0 := by
  show limbs q.num.natAbs = [] ↔ q = 0
  rw [limbs_eq_nil, Int.natAbs_eq_zero, Rat.num_eq_zero]
 rw [show decide ((ofQ q).n = []) = decide (q = 0) from decide_eq_decide.2 e]
 rw [Bool.eq_iff_iff, beq_iff_eq, decide_eq_true_eq]
 exact cmpQ_zero_iff
def zPo : Po := ⟨[], zF⟩
theorem wf_zPo : zPo.wf := ⟨fun x hx => (by cases hx), wf_zF⟩
def okPo (p : Po) : PVal := .bool p.ok
def placeF (t : Int) : List Pa → Option Nat
 | [] => none
 | x :: l => if x.t = t then some 0 else (match placeF t l with | some i => some (i + 1) | none => none)
def findF (t : Int) : List Pa → Option Fr
 | [] => none
 | x :: l => if x.t = t then some x.c else findF t l
def dropF (t : Int) : List Pa → List Pa
 | [] => []
 | x :: l => if x.t = t then l else x :: dropF t l
def coefPo (p : Po) (t : Int) : Fr := match findF t p.ps with | some c => if p.ok then c else ofQ 0 | none => ofQ 0
def withoutPo (p : Po) (t : Int) : Po := ⟨dropF t p.ps, p.c⟩
def sumF (lk : Int → Fr) : List Pa → Fr → Fr × Nat
 | [], s => (s, 0)
 | x :: l, s => if (mulF x.c (lk x.t)).2 = 0 then (if (addF s (mulF x.c (lk x.t)).1).2 = 0 then sumF lk l (addF s (mulF x.c (lk x.t)).1).1 else (zF, 4)) else (zF, 4)
def valuePo (lk : Int → Fr) (p : Po) : Fr × Nat :=
 if p.ok && p.ps.all (fun x => (lk x.t).ok) then sumF lk p.ps p.c else (zF, 1)
instance : DecidableEq Fr := fun x y => if h : x.s = y.s ∧ x.n = y.n ∧ x.d = y.d then .isTrue (by cases x; cases y; obtain ⟨a, b, c⟩ := h; simp_all) else .isFalse (fun e => h (by rw [e]; exact ⟨rfl, rfl, rfl⟩))
instance : DecidableEq Pa := fun x y => if h : x.c = y.c ∧ x.t = y.t then .isTrue (by cases x; cases y; obtain ⟨a, b⟩ := h; simp_all) else .isFalse (fun e => h (by rw [e]; exact ⟨rfl, rfl⟩))
instance : DecidableEq Po := fun x y => if h : x.ps = y.ps ∧ x.c = y.c then .isTrue (by cases x; cases y; obtain ⟨a, b⟩ := h; simp_all) else .isFalse (fun e => h (by rw [e]; exact ⟨rfl, rfl⟩))
def samePo (p q : Po) : PVal := .bool (decide (p = q))
end Go.Proofs.YtepfpgnjpkcgmaaGreat

/-
 The lowered code of the functions, as the program's form has it.
-/
namespace Go.Proofs.YtepfpgnjpkcgmaaGreat
open Go Go.Abs
def lf23_B0 : LCode := .block 0 (.loop (.seq (.region [Oa 27 (.bin .lss (Tm 26) (Tm 25))]) (.seq (.cond (Tm 27) (.skip) (.exit 0)) (.seq (.block 1 (.seq (.region [Oa 28 (.iadr 4 (Tm 24) (Tm 26)),Oa 29 (.load 4 true (Tm 28)),Oa 8 (.newv 4 112 (.cst (.agg [.p (.bool false),.tight [],.tight [],.p (.int .i64 0)]))),Ob (.store 4 (Tm 8) (Tm 29))]) (.seq (.region [Oa 30 (.mov (Tm 1)),Oa 31 (.fadr 3 (Tm 8)),Oa 32 (.load 1 false (Tm 31)),Oa 33 (.callv (Tm 30) [Tm 32]),Oa 9 (.newv 3 25 (.cst (.agg [.p (.bool false),.tight [],.tight []]))),Ob (.store 3 (Tm 9) (Tm 33))]) (.seq (.seq (.region [Oa 34 (.load 3 true (Tm 9)),Oa 35 (.call 89 [Tm 34]),Oa 36 (.un .not (Tm 35))]) (.cond (Tm 36) (.seq (.region [Oa 37 (.build (.agg [.p (.bool false),.tight [],.tight []]) []),Ob (.store 3 (Tm 4) (Tm 37)),Oa 5 (.mov (.cst (.p (.int .i64 1))))]) (.ret)) (.skip))) (.region [Oa 38 (.mov (Tm 6)),Oa 39 (.load 3 true (Tm 9)),Oa 40 (.buildSl 3 25 (.agg [.p (.bool false),.tight [],.tight []]) 1 [(0,(Tm 39))]),Oa 41 (.app 3 56 25 (Tm 38) (Tm 40)),Oa 6 (.mov (Tm 41))]))))) (.region [Oa 42 (.bin .add (Tm 26) (.cst (.p (.int .i64 1)))),Oa 26 (.mov (Tm 42))])))))
def lf23_B1 : LCode := .block 2 (.loop (.seq (.region [Oa 50 (.bin .lss (Tm 49) (Tm 48))]) (.seq (.cond (Tm 50) (.skip) (.exit 2)) (.seq (.block 3 (.seq (.region [Oa 51 (.mov (Tm 49)),Oa 52 (.iadr 4 (Tm 47) (Tm 49)),Oa 53 (.load 4 true (Tm 52)),Oa 12 (.newv 4 112 (.cst (.agg [.p (.bool false),.tight [],.tight [],.p (.int .i64 0)]))),Oa 11 (.mov (Tm 51)),Ob (.store 4 (Tm 12) (Tm 53))]) (.seq (.regionW [(Oa 55 (.fadr 0 (Tm 12)),.s),(Oa 56 (.load 3 true (Tm 55)),.s),(Oa 57 (.mov (Tm 6)),.f),(Oa 58 (.mov (Tm 11)),.f),(Oa 59 (.iadr 3 (Tm 57) (Tm 58)),.s),(Oa 60 (.load 3 true (Tm 59)),.s),(Oa 61 (.call 90 [Tm 56,Tm 60]),.t),(Oa 54 (.mov (Tm 61)),.f),(Oa 62 (.ext (Tm 54) 0),.f),(Oa 63 (.ext (Tm 54) 1),.f),(Oa 13 (.newv 3 25 (.cst (.agg [.p (.bool false),.tight [],.tight []]))),.s),(Ob (.store 3 (Tm 13) (Tm 62)),.f),(Oa 14 (.mov (Tm 63)),.f)]) (.seq (.seq (.region [Oa 64 (.mov (Tm 14)),Oa 65 (.bin .neq (Tm 64) (.cst (.p (.int .i64 0))))]) (.cond (Tm 65) (.seq (.region [Oa 66 (.build (.agg [.p (.bool false),.tight [],.tight []]) []),Oa 67 (.mov (Tm 14)),Ob (.store 3 (Tm 4) (Tm 66)),Oa 5 (.mov (Tm 67))]) (.ret)) (.skip))) (.seq (.region [Oa 69 (.load 3 true (Tm 10)),Oa 70 (.load 3 true (Tm 13)),Oa 71 (.call 85 [Tm 69,Tm 70]),Oa 68 (.mov (Tm 71)),Oa 72 (.ext (Tm 68) 0),Oa 73 (.ext (Tm 68) 1),Ob (.store 3 (Tm 10) (Tm 72)),Oa 14 (.mov (Tm 73))]) (.seq (.region [Oa 74 (.mov (Tm 14)),Oa 75 (.bin .neq (Tm 74) (.cst (.p (.int .i64 0))))]) (.cond (Tm 75) (.seq (.region [Oa 76 (.build (.agg [.p (.bool false),.tight [],.tight []]) []),Oa 77 (.mov (Tm 14)),Ob (.store 3 (Tm 4) (Tm 76)),Oa 5 (.mov (Tm 77))]) (.ret)) (.skip)))))))) (.region [Oa 78 (.bin .add (Tm 49) (.cst (.p (.int .i64 1)))),Oa 49 (.mov (Tm 78))])))))
def lf23 : LFunc := ⟨80,[.cell 4 3 true,.slot 5],.seq (.region [Oa 2 (.newv 4 27 (Tm 0)),Oa 4 (.newv 3 25 (.cst (.agg [.p (.bool false),.tight [],.tight []]))),Oa 5 (.mov (.cst (.p (.int .i64 0))))]) (.seq (.seq (.region [Oa 15 (.load 4 true (Tm 2)),Oa 16 (.call 30 [Tm 15]),Oa 17 (.un .not (Tm 16)),Oa 18 (.mov (Tm 17)),Od 19 18 (.mov (Tm 1)),Od 20 18 (.eqN false true (Tm 19) (.cst (.p .nilf))),Oa 21 (.pick (Tm 18) (.cst (.p (.bool true))) (Tm 20))]) (.cond (Tm 21) (.seq (.region [Oa 22 (.build (.agg [.p (.bool false),.tight [],.tight []]) []),Ob (.store 3 (Tm 4) (Tm 22)),Oa 5 (.mov (.cst (.p (.int .i64 1))))]) (.ret)) (.skip))) (.seq (.region [Oa 6 (.mov (.cst (.tight [])))]) (.seq (.seq (.region [Oa 23 (.fadr 0 (Tm 2)),Oa 24 (.load 1 false (Tm 23)),Oa 25 (.len (Tm 24)),Oa 26 (.mov (.cst (.p (.int .i64 0))))]) (lf23_B0)) (.seq (.region [Oa 43 (.fadr 1 (Tm 2)),Oa 44 (.load 3 true (Tm 43)),Oa 45 (.call 86 [Tm 44]),Oa 10 (.newv 3 25 (.cst (.agg [.p (.bool false),.tight [],.tight []]))),Ob (.store 3 (Tm 10) (Tm 45))]) (.seq (.seq (.region [Oa 46 (.fadr 0 (Tm 2)),Oa 47 (.load 1 false (Tm 46)),Oa 48 (.len (Tm 47)),Oa 49 (.mov (.cst (.p (.int .i64 0))))]) (lf23_B1)) (.seq (.region [Oa 79 (.load 3 true (Tm 10)),Ob (.store 3 (Tm 4) (Tm 79)),Oa 5 (.mov (.cst (.p (.int .i64 0))))]) (.ret)))))))⟩
theorem low23 : lowFunc Tryz.prog gl0 23 = some lf23 := Go.Abs.lowF (by kernel_rfl)
def lf30_B0 : LCode := .block 0 (.loop (.seq (.region [Oa 9 (.bin .lss (Tm 8) (Tm 7))]) (.seq (.cond (Tm 9) (.skip) (.exit 0)) (.seq (.block 1 (.seq (.region [Oa 10 (.mov (Tm 8)),Oa 11 (.iadr 4 (Tm 6) (Tm 8)),Oa 12 (.load 4 true (Tm 11)),Oa 4 (.newv 4 112 (.cst (.agg [.p (.bool false),.tight [],.tight [],.p (.int .i64 0)]))),Oa 3 (.mov (Tm 10)),Ob (.store 4 (Tm 4) (Tm 12))]) (.seq (.regionD [Oa 13 (.fadr 3 (Tm 4)),Oa 14 (.load 1 false (Tm 13)),Oa 15 (.bin .lss (Tm 14) (.cst (.p (.int .i64 0)))),Oa 16 (.mov (Tm 15)),Od 17 16 (.mov (Tm 3)),Od 18 16 (.bin .gtr (Tm 17) (.cst (.p (.int .i64 0)))),Od 19 16 (.mov (Tm 18)),Oc 20 19 (.fadr 3 (Tm 4)),Oc 21 19 (.load 1 false (Tm 20)),Oc 22 19 (.fadr 0 (Tm 1)),Oc 23 19 (.load 1 false (Tm 22)),Oc 24 19 (.mov (Tm 3)),Oc 25 19 (.bin .sub (Tm 24) (.cst (.p (.int .i64 1)))),Oc 26 19 (.iadr 4 (Tm 23) (Tm 25)),Oc 27 19 (.fadr 3 (Tm 26)),Oc 28 19 (.load 1 false (Tm 27)),Oc 29 19 (.bin .leq (Tm 21) (Tm 28)),Od 30 16 (.pick (Tm 19) (Tm 29) (.cst (.p (.bool false)))),Oa 31 (.pick (Tm 16) (.cst (.p (.bool true))) (Tm 30)),Oa 32 (.mov (Tm 31)),Od 33 32 (.fadr 0 (Tm 4)),Od 34 32 (.load 3 true (Tm 33)),Od 35 32 (.call 89 [Tm 34]),Od 36 32 (.un .not (Tm 35)),Oa 37 (.pick (Tm 32) (.cst (.p (.bool true))) (Tm 36)),Oa 38 (.mov (Tm 37)),Od 39 38 (.fadr 0 (Tm 4)),Od 40 38 (.load 3 true (Tm 39)),Od 41 38 (.call 87 [Tm 40]),Od 42 38 (.bin .eql (Tm 41) (.cst (.p (.int .i64 0)))),Oa 43 (.pick (Tm 38) (.cst (.p (.bool true))) (Tm 42))]) (.cond (Tm 43) (.seq (.region [Oa 2 (.mov (.cst (.p (.bool false))))]) (.ret)) (.skip))))) (.region [Oa 44 (.bin .add (Tm 8) (.cst (.p (.int .i64 1)))),Oa 8 (.mov (Tm 44))])))))
def lf30 : LFunc := ⟨48,[.slot 2],.seq (.region [Oa 1 (.newv 4 27 (Tm 0)),Oa 2 (.mov (.cst (.p (.bool false))))]) (.seq (.seq (.region [Oa 5 (.fadr 0 (Tm 1)),Oa 6 (.load 1 false (Tm 5)),Oa 7 (.len (Tm 6)),Oa 8 (.mov (.cst (.p (.int .i64 0))))]) (lf30_B0)) (.seq (.region [Oa 45 (.fadr 1 (Tm 1)),Oa 46 (.load 3 true (Tm 45)),Oa 47 (.call 89 [Tm 46]),Oa 2 (.mov (Tm 47))]) (.ret)))⟩
theorem low30 : lowFunc Tryz.prog gl0 30 = some lf30 := Go.Abs.lowF (by kernel_rfl)
def lf32 : LFunc := ⟨23,[.cell 4 3 true],.seq (.region [Oa 2 (.newv 4 27 (Tm 0)),Oa 4 (.newv 3 25 (.cst (.agg [.p (.bool false),.tight [],.tight []])))]) (.seq (.seq (.region [Oa 6 (.load 4 true (Tm 2)),Oa 7 (.mov (Tm 1)),Oa 8 (.call 93 [Tm 6,Tm 7]),Oa 5 (.mov (Tm 8))]) (.seq (.region [Oa 9 (.mov (Tm 5)),Oa 10 (.bin .geq (Tm 9) (.cst (.p (.int .i64 0)))),Oa 11 (.mov (Tm 10)),Oc 12 11 (.load 4 true (Tm 2)),Oc 13 11 (.call 30 [Tm 12]),Oa 14 (.pick (Tm 11) (Tm 13) (.cst (.p (.bool false))))]) (.cond (Tm 14) (.seq (.region [Oa 15 (.fadr 0 (Tm 2)),Oa 16 (.load 1 false (Tm 15)),Oa 17 (.mov (Tm 5)),Oa 18 (.iadr 4 (Tm 16) (Tm 17)),Oa 19 (.fadr 0 (Tm 18)),Oa 20 (.load 3 true (Tm 19)),Oa 21 (.call 86 [Tm 20]),Ob (.store 3 (Tm 4) (Tm 21))]) (.ret)) (.skip)))) (.seq (.region [Oa 22 (.call 101 []),Ob (.store 3 (Tm 4) (Tm 22))]) (.ret)))⟩
theorem low32 : lowFunc Tryz.prog gl0 32 = some lf32 := Go.Abs.lowF (by kernel_rfl)
def lf34 : LFunc := ⟨17,[.slot 4],.seq (.region [Oa 2 (.newv 4 27 (Tm 0)),Oa 3 (.newv 4 27 (Tm 1)),Oa 4 (.mov (.cst (.p (.bool false))))]) (.seq (.region [Oa 5 (.fadr 1 (Tm 2)),Oa 6 (.load 3 true (Tm 5)),Oa 7 (.fadr 1 (Tm 3)),Oa 8 (.load 3 true (Tm 7)),Oa 9 (.call 102 [Tm 6,Tm 8]),Oa 10 (.mov (Tm 9)),Oc 11 10 (.fadr 0 (Tm 2)),Oc 12 10 (.load 1 false (Tm 11)),Oc 13 10 (.fadr 0 (Tm 3)),Oc 14 10 (.load 1 false (Tm 13)),Oc 15 10 (.call 103 [Tm 12,Tm 14,.cst (.p (.clo 104 []))]),Oa 16 (.pick (Tm 10) (Tm 15) (.cst (.p (.bool false)))),Oa 4 (.mov (Tm 16))]) (.ret))⟩
theorem low34 : lowFunc Tryz.prog gl0 34 = some lf34 := Go.Abs.lowF (by kernel_rfl)
def lf86 : LFunc := ⟨12,[.cell 2 3 true],.seq (.region [Oa 1 (.newv 3 25 (Tm 0)),Oa 2 (.newv 3 25 (.cst (.agg [.p (.bool false),.tight [],.tight []])))]) (.seq (.regionW [(Oa 3 (.fadr 0 (Tm 1)),.s),(Oa 4 (.load 1 false (Tm 3)),.s),(Oa 5 (.fadr 1 (Tm 1)),.f),(Oa 6 (.load 1 false (Tm 5)),.f),(Oa 7 (.call 149 [Tm 6]),.s),(Oa 8 (.fadr 2 (Tm 1)),.s),(Oa 9 (.load 1 false (Tm 8)),.s),(Oa 10 (.call 149 [Tm 9]),.s),(Oa 11 (.build (.agg [.p (.bool false),.tight [],.tight []]) [(0,1,(Tm 4)),(1,1,(Tm 7)),(2,1,(Tm 10))]),.f),(Ob (.store 3 (Tm 2) (Tm 11)),.f)]) (.ret))⟩
theorem low86 : lowFunc Tryz.prog gl0 86 = some lf86 := Go.Abs.lowF (by kernel_rfl)
def lf93 : LFunc := ⟨9,[.slot 4],.seq (.region [Oa 2 (.newv 4 27 (Tm 0)),Oa 3 (.newv 1 3 (Tm 1)),Oa 4 (.mov (.cst (.p (.int .i64 0))))]) (.seq (.region [Oa 5 (.fadr 0 (Tm 2)),Oa 6 (.load 1 false (Tm 5)),Oa 7 (.mkf 159 [Tm 3]),Oa 8 (.call 158 [Tm 6,Tm 7]),Oa 4 (.mov (Tm 8))]) (.ret))⟩
theorem low93 : lowFunc Tryz.prog gl0 93 = some lf93 := Go.Abs.lowF (by kernel_rfl)
def lf96 : LFunc := ⟨22,[.cell 4 4 true],.seq (.region [Oa 2 (.newv 4 27 (Tm 0)),Oa 4 (.newv 4 27 (.cst (.agg [.tight [],.p (.bool false),.tight [],.tight []])))]) (.seq (.region [Oa 6 (.load 4 true (Tm 2)),Oa 7 (.mov (Tm 1)),Oa 8 (.call 93 [Tm 6,Tm 7]),Oa 5 (.mov (Tm 8))]) (.seq (.seq (.region [Oa 9 (.mov (Tm 5)),Oa 10 (.bin .lss (Tm 9) (.cst (.p (.int .i64 0))))]) (.cond (Tm 10) (.seq (.region [Oa 11 (.load 4 true (Tm 2)),Ob (.store 4 (Tm 4) (Tm 11))]) (.ret)) (.skip))) (.seq (.regionW [(Oa 12 (.fadr 0 (Tm 2)),.f),(Oa 13 (.load 1 false (Tm 12)),.f),(Oa 14 (.call 163 [Tm 13]),.s),(Oa 15 (.mov (Tm 5)),.f),(Oa 16 (.mov (Tm 5)),.f),(Oa 17 (.bin .add (Tm 16) (.cst (.p (.int .i64 1)))),.f),(Oa 18 (.call 162 [Tm 14,Tm 15,Tm 17]),.s),(Oa 19 (.fadr 1 (Tm 2)),.s),(Oa 20 (.load 3 true (Tm 19)),.s),(Oa 21 (.build (.agg [.tight [],.p (.bool false),.tight [],.tight []]) [(0,1,(Tm 18)),(1,3,(Tm 20))]),.f),(Ob (.store 4 (Tm 4) (Tm 21)),.f)]) (.ret))))⟩
theorem low96 : lowFunc Tryz.prog gl0 96 = some lf96 := Go.Abs.lowF (by kernel_rfl)
def lf102 : LFunc := ⟨24,[.slot 4],.seq (.region [Oa 2 (.newv 3 25 (Tm 0)),Oa 3 (.newv 3 25 (Tm 1)),Oa 4 (.mov (.cst (.p (.bool false))))]) (.seq (.region [Oa 5 (.fadr 0 (Tm 2)),Oa 6 (.load 1 false (Tm 5)),Oa 7 (.fadr 0 (Tm 3)),Oa 8 (.load 1 false (Tm 7)),Oa 9 (.eqB false (Tm 6) (Tm 8)),Oa 10 (.mov (Tm 9)),Oc 11 10 (.fadr 1 (Tm 2)),Oc 12 10 (.load 1 false (Tm 11)),Oc 13 10 (.fadr 1 (Tm 3)),Oc 14 10 (.load 1 false (Tm 13)),Oc 15 10 (.call 165 [Tm 12,Tm 14]),Oa 16 (.pick (Tm 10) (Tm 15) (.cst (.p (.bool false)))),Oa 17 (.mov (Tm 16)),Oc 18 17 (.fadr 2 (Tm 2)),Oc 19 17 (.load 1 false (Tm 18)),Oc 20 17 (.fadr 2 (Tm 3)),Oc 21 17 (.load 1 false (Tm 20)),Oc 22 17 (.call 165 [Tm 19,Tm 21]),Oa 23 (.pick (Tm 17) (Tm 22) (.cst (.p (.bool false)))),Oa 4 (.mov (Tm 23))]) (.ret))⟩
theorem low102 : lowFunc Tryz.prog gl0 102 = some lf102 := Go.Abs.lowF (by kernel_rfl)
def lf104 : LFunc := ⟨17,[.slot 4],.seq (.region [Oa 2 (.newv 4 112 (Tm 0)),Oa 3 (.newv 4 112 (Tm 1)),Oa 4 (.mov (.cst (.p (.bool false))))]) (.seq (.region [Oa 5 (.fadr 3 (Tm 2)),Oa 6 (.load 1 false (Tm 5)),Oa 7 (.fadr 3 (Tm 3)),Oa 8 (.load 1 false (Tm 7)),Oa 9 (.bin .eql (Tm 6) (Tm 8)),Oa 10 (.mov (Tm 9)),Oc 11 10 (.fadr 0 (Tm 2)),Oc 12 10 (.load 3 true (Tm 11)),Oc 13 10 (.fadr 0 (Tm 3)),Oc 14 10 (.load 3 true (Tm 13)),Oc 15 10 (.call 102 [Tm 12,Tm 14]),Oa 16 (.pick (Tm 10) (Tm 15) (.cst (.p (.bool false)))),Oa 4 (.mov (Tm 16))]) (.ret))⟩
theorem low104 : lowFunc Tryz.prog gl0 104 = some lf104 := Go.Abs.lowF (by kernel_rfl)
def lf159 : LFunc := ⟨8,[.slot 3],.seq (.region [Oa 2 (.newv 4 112 (Tm 0)),Oa 3 (.mov (.cst (.p (.bool false))))]) (.seq (.region [Oa 4 (.fadr 3 (Tm 2)),Oa 5 (.load 1 false (Tm 4)),Oa 6 (.load 1 false (Tm 1)),Oa 7 (.bin .eql (Tm 5) (Tm 6)),Oa 3 (.mov (Tm 7))]) (.ret))⟩
theorem low159 : lowFunc Tryz.prog gl0 159 = some lf159 := Go.Abs.lowF (by kernel_rfl)
def lf158_B0 : LCode := .block 0 (.loop (.seq (.region [Oa 9 (.bin .lss (Tm 8) (Tm 7))]) (.seq (.cond (Tm 9) (.skip) (.exit 0)) (.seq (.block 1 (.seq (.region [Oa 10 (.mov (Tm 8)),Oa 5 (.mov (Tm 10))]) (.seq (.region [Oa 11 (.mov (Tm 1)),Oa 12 (.mov (Tm 0)),Oa 13 (.mov (Tm 5)),Oa 14 (.iadr 4 (Tm 12) (Tm 13)),Oa 15 (.load 4 true (Tm 14)),Oa 16 (.callv (Tm 11) [Tm 15])]) (.cond (Tm 16) (.seq (.region [Oa 17 (.mov (Tm 5)),Oa 4 (.mov (Tm 17))]) (.ret)) (.skip))))) (.region [Oa 18 (.bin .add (Tm 8) (.cst (.p (.int .i64 1)))),Oa 8 (.mov (Tm 18))])))))
def lf158 : LFunc := ⟨19,[.slot 4],.seq (.region [Oa 4 (.mov (.cst (.p (.int .i64 0))))]) (.seq (.seq (.region [Oa 6 (.mov (Tm 0)),Oa 7 (.len (Tm 6)),Oa 8 (.mov (.cst (.p (.int .i64 0))))]) (lf158_B0)) (.seq (.region [Oa 4 (.mov (.cst (.p (.int .i64 (-1)))))]) (.ret)))⟩
theorem low158 : lowFunc Tryz.prog gl0 158 = some lf158 := Go.Abs.lowF (by kernel_rfl)
def lf162 : LFunc := ⟨33,[.slot 6],.seq (.region [Oa 6 (.mov (.cst (.tight [])))]) (.seq (.region [Oa 8 (.mov (Tm 0)),Oa 9 (.mov (Tm 1)),Oa 10 (.mov (Tm 2)),Oa 11 (.mov (Tm 0)),Oa 12 (.len (Tm 11)),Oa 13 (.slSl 4 (Tm 8) (some (Tm 9)) (some (Tm 10)) (some (Tm 12)))]) (.seq (.seq (.region [Oa 14 (.mov (Tm 1)),Oa 15 (.mov (Tm 2)),Oa 16 (.bin .eql (Tm 14) (Tm 15))]) (.cond (Tm 16) (.seq (.region [Oa 17 (.mov (Tm 0)),Oa 6 (.mov (Tm 17))]) (.ret)) (.skip))) (.seq (.region [Oa 18 (.mov (Tm 0)),Oa 19 (.len (Tm 18)),Oa 7 (.mov (Tm 19))]) (.seq (.regionW [(Oa 20 (.mov (Tm 0)),.f),(Oa 21 (.mov (Tm 1)),.f),(Oa 22 (.slSl 4 (Tm 20) none (some (Tm 21)) none),.f),(Oa 23 (.mov (Tm 0)),.f),(Oa 24 (.mov (Tm 2)),.f),(Oa 25 (.slSl 4 (Tm 23) (some (Tm 24)) none none),.f),(Oa 26 (.app 4 64 112 (Tm 22) (Tm 25)),.f),(Oa 0 (.mov (Tm 26)),.f)]) (.seq (.region [Oa 27 (.mov (Tm 0)),Oa 28 (.mov (Tm 0)),Oa 29 (.len (Tm 28)),Oa 30 (.mov (Tm 7)),Oa 31 (.slSl 4 (Tm 27) (some (Tm 29)) (some (Tm 30)) none),Ob (.clr 4 (.agg [.p (.bool false),.tight [],.tight [],.p (.int .i64 0)]) (Tm 31))]) (.seq (.region [Oa 32 (.mov (Tm 0)),Oa 6 (.mov (Tm 32))]) (.ret)))))))⟩
theorem low162 : lowFunc Tryz.prog gl0 162 = some lf162 := Go.Abs.lowF (by kernel_rfl)
def lf163 : LFunc := ⟨8,[.slot 2],.seq (.region [Oa 2 (.mov (.cst (.tight [])))]) (.seq (.seq (.region [Oa 3 (.mov (Tm 0)),Oa 4 (.eqS false (Tm 3) (.cst (.tight [])))]) (.cond (Tm 4) (.seq (.region [Oa 2 (.mov (.cst (.tight [])))]) (.ret)) (.skip))) (.seq (.region [Oa 5 (.buildSl 4 112 (.agg [.p (.bool false),.tight [],.tight [],.p (.int .i64 0)]) 0 []),Oa 6 (.mov (Tm 0)),Oa 7 (.app 4 64 112 (Tm 5) (Tm 6)),Oa 2 (.mov (Tm 7))]) (.ret)))⟩
theorem low163 : lowFunc Tryz.prog gl0 163 = some lf163 := Go.Abs.lowF (by kernel_rfl)
def lf165_B0 : LCode := .block 0 (.loop (.seq (.region [Oa 14 (.bin .lss (Tm 13) (Tm 12))]) (.seq (.cond (Tm 14) (.skip) (.exit 0)) (.seq (.block 1 (.seq (.region [Oa 15 (.mov (Tm 13)),Oa 5 (.mov (Tm 15))]) (.seq (.regionD [Oa 16 (.mov (Tm 0)),Oa 17 (.mov (Tm 5)),Oa 18 (.iadr 1 (Tm 16) (Tm 17)),Oa 19 (.load 1 false (Tm 18)),Oa 20 (.mov (Tm 1)),Oa 21 (.mov (Tm 5)),Oa 22 (.iadr 1 (Tm 20) (Tm 21)),Oa 23 (.load 1 false (Tm 22)),Oa 24 (.bin .neq (Tm 19) (Tm 23))]) (.cond (Tm 24) (.seq (.region [Oa 4 (.mov (.cst (.p (.bool false))))]) (.ret)) (.skip))))) (.region [Oa 25 (.bin .add (Tm 13) (.cst (.p (.int .i64 1)))),Oa 13 (.mov (Tm 25))])))))
def lf165 : LFunc := ⟨26,[.slot 4],.seq (.region [Oa 4 (.mov (.cst (.p (.bool false))))]) (.seq (.seq (.region [Oa 6 (.mov (Tm 0)),Oa 7 (.len (Tm 6)),Oa 8 (.mov (Tm 1)),Oa 9 (.len (Tm 8)),Oa 10 (.bin .neq (Tm 7) (Tm 9))]) (.cond (Tm 10) (.seq (.region [Oa 4 (.mov (.cst (.p (.bool false))))]) (.ret)) (.skip))) (.seq (.seq (.region [Oa 11 (.mov (Tm 0)),Oa 12 (.len (Tm 11)),Oa 13 (.mov (.cst (.p (.int .i64 0))))]) (lf165_B0)) (.seq (.region [Oa 4 (.mov (.cst (.p (.bool true))))]) (.ret))))⟩
theorem low165 : lowFunc Tryz.prog gl0 165 = some lf165 := Go.Abs.lowF (by kernel_rfl)
def lf103_B0 : LCode := .block 0 (.loop (.seq (.region [Oa 18 (.bin .lss (Tm 17) (Tm 16))]) (.seq (.cond (Tm 18) (.skip) (.exit 0)) (.seq (.block 1 (.seq (.region [Oa 19 (.mov (Tm 17)),Oa 20 (.iadr 4 (Tm 15) (Tm 17)),Oa 21 (.load 4 true (Tm 20)),Oa 8 (.newv 4 112 (.cst (.agg [.p (.bool false),.tight [],.tight [],.p (.int .i64 0)]))),Oa 7 (.mov (Tm 19)),Ob (.store 4 (Tm 8) (Tm 21))]) (.seq (.region [Oa 22 (.mov (Tm 1)),Oa 23 (.mov (Tm 7)),Oa 24 (.iadr 4 (Tm 22) (Tm 23)),Oa 25 (.load 4 true (Tm 24)),Oa 9 (.newv 4 112 (.cst (.agg [.p (.bool false),.tight [],.tight [],.p (.int .i64 0)]))),Ob (.store 4 (Tm 9) (Tm 25))]) (.seq (.region [Oa 26 (.mov (Tm 2)),Oa 27 (.load 4 true (Tm 8)),Oa 28 (.load 4 true (Tm 9)),Oa 29 (.callv (Tm 26) [Tm 27,Tm 28]),Oa 30 (.un .not (Tm 29))]) (.cond (Tm 30) (.seq (.region [Oa 6 (.mov (.cst (.p (.bool false))))]) (.ret)) (.skip)))))) (.region [Oa 31 (.bin .add (Tm 17) (.cst (.p (.int .i64 1)))),Oa 17 (.mov (Tm 31))])))))
def lf103 : LFunc := ⟨32,[.slot 6],.seq (.region [Oa 6 (.mov (.cst (.p (.bool false))))]) (.seq (.seq (.region [Oa 10 (.mov (Tm 0)),Oa 11 (.len (Tm 10)),Oa 12 (.mov (Tm 1)),Oa 13 (.len (Tm 12)),Oa 14 (.bin .neq (Tm 11) (Tm 13))]) (.cond (Tm 14) (.seq (.region [Oa 6 (.mov (.cst (.p (.bool false))))]) (.ret)) (.skip))) (.seq (.seq (.region [Oa 15 (.mov (Tm 0)),Oa 16 (.len (Tm 15)),Oa 17 (.mov (.cst (.p (.int .i64 0))))]) (lf103_B0)) (.seq (.region [Oa 6 (.mov (.cst (.p (.bool true))))]) (.ret))))⟩
theorem low103 : lowFunc Tryz.prog gl0 103 = some lf103 := Go.Abs.lowF (by kernel_rfl)
def lf14 : LFunc := ⟨13,[.slot 2],.seq (.region [Oa 1 (.newv 3 25 (Tm 0)),Oa 2 (.mov (.cst (.p (.bool false))))]) (.seq (.region [Oa 3 (.fadr 1 (Tm 1)),Oa 4 (.load 1 false (Tm 3)),Oa 5 (.len (Tm 4)),Oa 6 (.bin .leq (Tm 5) (.cst (.p (.int .i64 8)))),Oa 7 (.mov (Tm 6)),Oc 8 7 (.fadr 2 (Tm 1)),Oc 9 7 (.load 1 false (Tm 8)),Oc 10 7 (.len (Tm 9)),Oc 11 7 (.bin .leq (Tm 10) (.cst (.p (.int .i64 8)))),Oa 12 (.pick (Tm 7) (Tm 11) (.cst (.p (.bool false)))),Oa 2 (.mov (Tm 12))]) (.ret))⟩
theorem low14 : lowFunc Tryz.prog gl0 14 = some lf14 := Go.Abs.lowF (by kernel_rfl)
end Go.Proofs.YtepfpgnjpkcgmaaGreat

/-
 The lowered code of the functions, as the program's form has it.
-/
namespace Go.Proofs.YtepfpgnjpkcgmaaGreat
open Go Go.Abs
def lf25_B0 : LCode := .block 0 (.loop (.seq (.seq (.region [Oa 6 (.mov (Tm 5)),Oa 7 (.mov (Tm 0)),Oa 8 (.len (Tm 7)),Oa 9 (.bin .lss (Tm 6) (Tm 8))]) (.cond (Tm 9) (.skip) (.exit 0))) (.seq (.block 1 (.seq (.region [Oa 12 (.mov (Tm 0)),Oa 13 (.mov (Tm 5)),Oa 14 (.iadr 4 (Tm 12) (Tm 13)),Oa 15 (.fadr 0 (Tm 14)),Oa 16 (.load 1 false (Tm 15)),Oa 17 (.mov (Tm 1)),Oa 18 (.bin .eql (Tm 16) (Tm 17))]) (.cond (Tm 18) (.seq (.region [Oa 19 (.mov (Tm 0)),Oa 20 (.mov (Tm 5)),Oa 21 (.iadr 4 (Tm 19) (Tm 20)),Oa 22 (.fadr 1 (Tm 21)),Oa 23 (.load 3 true (Tm 22)),Ob (.store 3 (Tm 4) (Tm 23))]) (.ret)) (.skip)))) (.region [Oa 10 (.mov (Tm 5)),Oa 11 (.bin .add (Tm 10) (.cst (.p (.int .i64 1)))),Oa 5 (.mov (Tm 11))]))))
def lf25 : LFunc := ⟨25,[.cell 4 3 true],.seq (.region [Oa 4 (.newv 3 25 (.cst (.agg [.p (.bool false),.tight [],.tight []])))]) (.seq (.seq (.region [Oa 5 (.mov (.cst (.p (.int .i64 0))))]) (lf25_B0)) (.seq (.region [Oa 24 (.call 91 []),Ob (.store 3 (Tm 4) (Tm 24))]) (.ret)))⟩
theorem low25 : lowFunc Tryz.prog gl0 25 = some lf25 := Go.Abs.lowF (by kernel_rfl)
def lf91 : LFunc := ⟨2,[.cell 0 3 true],.seq (.region [Oa 0 (.newv 3 25 (.cst (.agg [.p (.bool false),.tight [],.tight []])))]) (.seq (.region [Oa 1 (.call 82 [.cst (.p (.int .i64 0)),.cst (.p (.int .i64 1))]),Ob (.store 3 (Tm 0) (Tm 1))]) (.ret))⟩
theorem low91 : lowFunc Tryz.prog gl0 91 = some lf91 := Go.Abs.lowF (by kernel_rfl)
end Go.Proofs.YtepfpgnjpkcgmaaGreat
