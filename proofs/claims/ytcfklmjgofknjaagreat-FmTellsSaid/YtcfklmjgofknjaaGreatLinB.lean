/-
  Sums as pure values. No conditions. The lowered code of linear, alike, law8 and the reference's sums, each equal to what the program's form lowers to. No conditions.
-/
import Derived.Test.YtcfklmjgofknjaaGreatRatG
import Derived.Test.YtcfklmjgofknjaaGreatRatD
import Derived.Test.YtcfklmjgofknjaaGreatAbsTwo
import Derived.Test.YtcfklmjgofknjaaGreatProg
import Derived.Test.YtcfklmjgofknjaaGreatNatA
import Derived.KernelRfl
set_option linter.unusedSimpArgs false
set_option linter.unnecessarySimpa false
set_option linter.unusedVariables false
set_option linter.constructorNameAsVariable false

/-
 Sums as pure values: what is one, sums, multiples, parts, what one term is, values.
-/
namespace Go.Proofs.YtcfklmjgofknjaaGreat
open Go Go.Abs Go.Limbs
set_option maxRecDepth 20000
structure Pa where
 c : Fr
 t : Int
structure Po where
 ps : List Pa
 c : Fr
def Pa.wf (x : Pa) : Prop := x.c.wf
def Pa.enc (x : Pa) : PVal := .agg [.bool x.c.s, .lst (x.c.n.map u64), .lst (x.c.d.map u64), .int .i64 x.t]
def wfPs (l : List Pa) : Prop := ∀ x ∈ l, x.wf
def Po.wf (p : Po) : Prop := wfPs p.ps ∧ p.c.wf
def Po.enc (p : Po) : PVal := .agg [.lst (p.ps.map Pa.enc), .bool p.c.s, .lst (p.c.n.map u64), .lst (p.c.d.map u64)]
def decPa : PVal → Option Pa
 | .agg [.bool s, .lst xs, .lst ys, .int .i64 t] => match decU xs, decU ys with | some l, some m => some ⟨⟨s, l, m⟩, t⟩ | _, _ => none
 | _ => none
theorem decPa_enc {x : Pa} (h : x.wf) : decPa x.enc = some x := by simp only [decPa, Pa.enc, decU_map h.1, decU_map h.2]
theorem decPa_some {v : PVal} {x : Pa} (h : decPa v = some x) : v = x.enc ∧ x.wf := by
 unfold decPa at h
 split at h
 ·rename_i s xs ys t
  split at h
  ·rename_i l m hl hm
   cases h
   obtain ⟨rfl, wl⟩ := decU_some hl
   obtain ⟨rfl, wm⟩ := decU_some hm
   exact ⟨rfl, wl, wm⟩
  ·cases h
 ·cases h
def decPs : List PVal → Option (List Pa)
 | [] => some []
 | v :: r => match decPa v, decPs r with | some x, some l => some (x :: l) | _, _ => none
theorem decPs_enc : ∀ {l : List Pa}, wfPs l → decPs (l.map Pa.enc) = some l
 | [], _ => rfl
 | x :: r, h => by simp only [List.map_cons, decPs, decPa_enc (h x (by simp)), decPs_enc (l := r) (fun y hy => h y (by simp [hy]))]
theorem decPs_some : ∀ {vs : List PVal} {l : List Pa}, decPs vs = some l → vs = l.map Pa.enc ∧ wfPs l
 | [], l, h => by cases h; exact ⟨rfl, fun x hx => by cases hx⟩
 | v :: r, l, h => by
  unfold decPs at h
  split at h
  ·rename_i x m hx hm
   cases h
   obtain ⟨rfl, wx⟩ := decPa_some hx
   obtain ⟨rfl, wm⟩ := decPs_some hm
   refine ⟨rfl, fun y hy => ?_⟩
   rcases List.mem_cons.1 hy with rfl | hy
   ·exact wx
   ·exact wm y hy
  ·cases h
def decPo : PVal → Option Po
 | .agg [.lst vs, .bool s, .lst xs, .lst ys] => match decPs vs, decU xs, decU ys with | some ps, some l, some m => some ⟨ps, ⟨s, l, m⟩⟩ | _, _, _ => none
 | _ => none
theorem decPo_enc {p : Po} (h : p.wf) : decPo p.enc = some p := by simp only [decPo, Po.enc, decPs_enc h.1, decU_map h.2.1, decU_map h.2.2]
theorem decPo_some {v : PVal} {p : Po} (h : decPo v = some p) : v = p.enc ∧ p.wf := by
 unfold decPo at h
 split at h
 ·rename_i vs s xs ys
  split at h
  ·rename_i ps l m hp hl hm
   cases h
   obtain ⟨rfl, wp⟩ := decPs_some hp
   obtain ⟨rfl, wl⟩ := decU_some hl
   obtain ⟨rfl, wm⟩ := decU_some hm
   exact ⟨rfl, wp, wl, wm⟩
  ·cases h
 ·cases h
def g1 (g : Po → PVal) : List PVal → Option PVal
 | [a] => match decPo a with | some p => some (g p) | none => none
 | _ => none
def g2 (g : Po → Po → PVal) : List PVal → Option PVal
 | [a, b] => match decPo a, decPo b with | some p, some q => some (g p q) | _, _ => none
 | _ => none
def gi (g : Po → Int → PVal) : List PVal → Option PVal
 | [a, .int .i64 t] => match decPo a with | some p => some (g p t) | _ => none
 | _ => none
theorem g1_at {g : Po → PVal} {p : Po} (h : p.wf) : g1 g [p.enc] = some (g p) := by simp only [g1, decPo_enc h]
theorem g2_at {g : Po → Po → PVal} {p q : Po} (h : p.wf) (h2 : q.wf) : g2 g [p.enc, q.enc] = some (g p q) := by simp only [g2, decPo_enc h, decPo_enc h2]
theorem gi_at {g : Po → Int → PVal} {p : Po} {t : Int} (h : p.wf) : gi g [p.enc, .int .i64 t] = some (g p t) := by simp only [gi, decPo_enc h]
theorem g1_some {g : Po → PVal} {args : List PVal} {z : PVal} (h : g1 g args = some z) : ∃ p : Po, p.wf ∧ args = [p.enc] ∧ z = g p := by
 unfold g1 at h
 split at h
 ·split at h
  ·rename_i p hp
   obtain ⟨rfl, w⟩ := decPo_some hp
   cases h
   exact ⟨p, w, rfl, rfl⟩
  ·cases h
 ·cases h
theorem g2_some {g : Po → Po → PVal} {args : List PVal} {z : PVal} (h : g2 g args = some z) : ∃ p q : Po, p.wf ∧ q.wf ∧ args = [p.enc, q.enc] ∧ z = g p q := by
 unfold g2 at h
 split at h
 ·split at h
  ·rename_i p q hp hq
   obtain ⟨rfl, w⟩ := decPo_some hp
   obtain ⟨rfl, w2⟩ := decPo_some hq
   cases h
   exact ⟨p, q, w, w2, rfl, rfl⟩
  ·cases h
 ·cases h
theorem gi_some {g : Po → Int → PVal} {args : List PVal} {z : PVal} (h : gi g args = some z) : ∃ (p : Po) (t : Int), p.wf ∧ args = [p.enc, .int .i64 t] ∧ z = g p t := by
 unfold gi at h
 split at h
 ·split at h
  ·rename_i p hp
   obtain ⟨rfl, w⟩ := decPo_some hp
   cases h
   exact ⟨p, _, w, rfl, rfl⟩
  ·cases h
 ·cases h
def Po.few (p : Po) : Bool := decide (p.ps.length ≤ 1000000)
def g2s (g : Po → Po → PVal) : List PVal → Option PVal
 | [a, b] => match decPo a, decPo b with | some p, some q => if (p.few && q.few) = true then some (g p q) else none | _, _ => none
 | _ => none
def gks (g : Po → Fr → PVal) : List PVal → Option PVal
 | [a, b] => match decPo a, decF b with | some p, some k => if p.few = true then some (g p k) else none | _, _ => none
 | _ => none
def gis (g : Po → Int → PVal) : List PVal → Option PVal
 | [a, .int .i64 t] => match decPo a with | some p => if p.few = true then some (g p t) else none | _ => none
 | _ => none
def g1s (g : Po → PVal) : List PVal → Option PVal
 | [a] => match decPo a with | some p => if p.few = true then some (g p) else none | _ => none
 | _ => none
theorem few_le {p : Po} (h : p.few = true) : p.ps.length ≤ 1000000 := of_decide_eq_true h
theorem g2s_at {g : Po → Po → PVal} {p q : Po} (h : p.wf) (h2 : q.wf) (f1 : p.few = true) (f2 : q.few = true) : g2s g [p.enc, q.enc] = some (g p q) := by simp only [g2s, decPo_enc h, decPo_enc h2, f1, f2, Bool.and_self, if_true]
theorem gks_at {g : Po → Fr → PVal} {p : Po} {k : Fr} (h : p.wf) (h2 : k.wf) (f1 : p.few = true) : gks g [p.enc, k.enc] = some (g p k) := by simp only [gks, decPo_enc h, decF_enc h2, f1, if_true]
theorem gis_at {g : Po → Int → PVal} {p : Po} {t : Int} (h : p.wf) (f1 : p.few = true) : gis g [p.enc, .int .i64 t] = some (g p t) := by simp only [gis, decPo_enc h, f1, if_true]
theorem g1s_at {g : Po → PVal} {p : Po} (h : p.wf) (f1 : p.few = true) : g1s g [p.enc] = some (g p) := by simp only [g1s, decPo_enc h, f1, if_true]
theorem g1s_some {g : Po → PVal} {args : List PVal} {z : PVal} (h : g1s g args = some z) : ∃ p : Po, p.wf ∧ p.few = true ∧ args = [p.enc] ∧ z = g p := by
 unfold g1s at h
 split at h
 ·split at h
  ·rename_i p hp
   obtain ⟨rfl, w⟩ := decPo_some hp
   split at h
   ·cases h; exact ⟨p, w, by assumption, rfl, rfl⟩
   ·cases h
  ·cases h
 ·cases h
theorem g2s_some {g : Po → Po → PVal} {args : List PVal} {z : PVal} (h : g2s g args = some z) : ∃ p q : Po, p.wf ∧ q.wf ∧ p.few = true ∧ q.few = true ∧ args = [p.enc, q.enc] ∧ z = g p q := by
 unfold g2s at h
 split at h
 ·split at h
  ·rename_i p q hp hq
   obtain ⟨rfl, w⟩ := decPo_some hp
   obtain ⟨rfl, w2⟩ := decPo_some hq
   split at h
   ·rename_i hf
    rw [Bool.and_eq_true] at hf
    cases h; exact ⟨p, q, w, w2, hf.1, hf.2, rfl, rfl⟩
   ·cases h
  ·cases h
 ·cases h
theorem gks_some {g : Po → Fr → PVal} {args : List PVal} {z : PVal} (h : gks g args = some z) : ∃ (p : Po) (k : Fr), p.wf ∧ k.wf ∧ p.few = true ∧ args = [p.enc, k.enc] ∧ z = g p k := by
 unfold gks at h
 split at h
 ·split at h
  ·rename_i p q hp hq
   obtain ⟨rfl, w⟩ := decPo_some hp
   obtain ⟨rfl, w2⟩ := decF_some hq
   split at h
   ·cases h; exact ⟨p, q, w, w2, by assumption, rfl, rfl⟩
   ·cases h
  ·cases h
 ·cases h
theorem gis_some {g : Po → Int → PVal} {args : List PVal} {z : PVal} (h : gis g args = some z) : ∃ (p : Po) (t : Int), p.wf ∧ p.few = true ∧ args = [p.enc, .int .i64 t] ∧ z = g p t := by
 unfold gis at h
 split at h
 ·split at h
  ·rename_i p hp
   obtain ⟨rfl, w⟩ := decPo_some hp
   split at h
   ·cases h; exact ⟨p, _, w, by assumption, rfl, rfl⟩
   ·cases h
  ·cases h
 ·cases h
def okParts : Int → List Pa → Bool
 | _, [] => true
 | l, x :: r => decide (l < x.t) && x.c.ok && !decide (x.c.n = []) && okParts x.t r
def Po.ok (p : Po) : Bool := okParts (-1) p.ps && p.c.ok
theorem sign_nil {x : Fr} (h : x.ok = true) : (signF x == 0) = decide (x.n = []) := by
 obtain ⟨q, hq, rfl⟩ := Fr.ok_of h
 rw [signF_num hq]
 have e : ((ofQ q).n = []) ↔ q = 0 := by
  show limbs q.num.natAbs = [] ↔ q = 0
  rw [limbs_eq_nil, Int.natAbs_eq_zero, Rat.num_eq_zero]
 rw [show decide ((ofQ q).n = []) = decide (q = 0) from decide_eq_decide.2 e]
 rw [Bool.eq_iff_iff, beq_iff_eq, decide_eq_true_eq]
 exact cmpQ_zero_iff
def zPo : Po := ⟨[], zF⟩
theorem wf_zPo : zPo.wf := ⟨fun x hx => (by cases hx), wf_zF⟩
def pairPo (r : Po × Nat) : PVal := .tup [r.1.enc, .int .i64 r.2]
def okPo (p : Po) : PVal := .bool p.ok
def mergeF : List Pa → List Pa → Option (List Pa)
 | [], r => some r
 | x :: l, [] => some (x :: l)
 | x :: l, y :: r =>
  if x.t < y.t then (mergeF l (y :: r)).map (x :: ·)
  else if y.t < x.t then (mergeF (x :: l) r).map (y :: ·)
  else if (addF x.c y.c).2 = 0 then
   (mergeF l r).map (fun m => if (addF x.c y.c).1.n = [] then m else ⟨(addF x.c y.c).1, x.t⟩ :: m)
  else none
termination_by l r => l.length + r.length
def withC (c : Fr) : Option (List Pa) → Po × Nat
 | some ps => (⟨ps, c⟩, 0)
 | none => (zPo, 4)
def addPo (p q : Po) : Po × Nat :=
 if p.ok && q.ok then (if (addF p.c q.c).2 = 0 then withC (addF p.c q.c).1 (mergeF p.ps q.ps) else (zPo, 4)) else (zPo, 1)
def scaleF (k : Fr) : List Pa → Option (List Pa)
 | [] => some []
 | x :: l => if (mulF x.c k).2 = 0 then (scaleF k l).map (⟨(mulF x.c k).1, x.t⟩ :: ·) else none
def scalePo (p : Po) (k : Fr) : Po × Nat :=
 if p.ok && k.ok then (if (mulF p.c k).2 = 0 then (if k.n = [] then (⟨[], (mulF p.c k).1⟩, 0) else withC (mulF p.c k).1 (scaleF k p.ps)) else (zPo, 4)) else (zPo, 1)
def placeF (t : Int) : List Pa → Option Nat
 | [] => none
 | x :: l => if x.t = t then some 0 else (match placeF t l with | some i => some (i + 1) | none => none)
def findF (t : Int) : List Pa → Option Fr
 | [] => none
 | x :: l => if x.t = t then some x.c else findF t l
def dropF (t : Int) : List Pa → List Pa
 | [] => []
 | x :: l => if x.t = t then l else x :: dropF t l
def coefPo (p : Po) (t : Int) : Fr := match findF t p.ps with | some c => if p.ok then c else ofQ 0 | none => ofQ 0
def withoutPo (p : Po) (t : Int) : Po := ⟨dropF t p.ps, p.c⟩
def solvePo (p : Po) (t : Int) : Po × Nat := match findF t p.ps with
 | some c => if p.ok then (if (quoF (ofQ (-1)) c).2 = 0 then scalePo (withoutPo p t) (quoF (ofQ (-1)) c).1 else (zPo, 4)) else (zPo, 1)
 | none => (zPo, 1)
def sumF (lk : Int → Fr) : List Pa → Fr → Fr × Nat
 | [], s => (s, 0)
 | x :: l, s => if (mulF x.c (lk x.t)).2 = 0 then (if (addF s (mulF x.c (lk x.t)).1).2 = 0 then sumF lk l (addF s (mulF x.c (lk x.t)).1).1 else (zF, 4)) else (zF, 4)
def valuePo (lk : Int → Fr) (p : Po) : Fr × Nat :=
 if p.ok && p.ps.all (fun x => (lk x.t).ok) then sumF lk p.ps p.c else (zF, 1)
instance : DecidableEq Fr := fun x y => if h : x.s = y.s ∧ x.n = y.n ∧ x.d = y.d then .isTrue (by cases x; cases y; obtain ⟨a, b, c⟩ := h; simp_all) else .isFalse (fun e => h (by rw [e]; exact ⟨rfl, rfl, rfl⟩))
instance : DecidableEq Pa := fun x y => if h : x.c = y.c ∧ x.t = y.t then .isTrue (by cases x; cases y; obtain ⟨a, b⟩ := h; simp_all) else .isFalse (fun e => h (by rw [e]; exact ⟨rfl, rfl⟩))
instance : DecidableEq Po := fun x y => if h : x.ps = y.ps ∧ x.c = y.c then .isTrue (by cases x; cases y; obtain ⟨a, b⟩ := h; simp_all) else .isFalse (fun e => h (by rw [e]; exact ⟨rfl, rfl⟩))
def samePo (p q : Po) : PVal := .bool (decide (p = q))
end Go.Proofs.YtcfklmjgofknjaaGreat

/-
 The lowered code of the functions, as the program's form has it.
-/
namespace Go.Proofs.YtcfklmjgofknjaaGreat
open Go Go.Abs
def lf46_B0 : LCode := .block 0 (.loop (.seq (.seq (.region [Om 35 6,Oa 36 (.len (Tm 35)),Oa 37 (.bin .gtr (Tm 36) (Kz 0)),Om 38 37,Oo 39 38 7,Od 40 38 (.len (Tm 39)),Od 41 38 (.bin .gtr (Tm 40) (Kz 0)),Ou 42 38 41]) (.cond (Tm 42) (.skip) (.exit 0))) (.block 1 (.seq (.region [Oa 8 (.newv 4 70 (.cst (.agg [.p (.bool false),.tight [],.tight [],.p (.int .i64 0)])))]) (.seq (.block 2 (.seq (.regionD [Om 70 7,Oa 71 (.len (Tm 70)),Oa 72 (.bin .eql (Tm 71) (Kz 0)),Om 73 72,Oo 74 73 6,Od 75 73 (.len (Tm 74)),Od 76 73 (.bin .gtr (Tm 75) (Kz 0)),Oo 77 73 76,Oj 78 77 6,Oc 79 77 (.iadr 4 (Tm 78) (Kz 0)),Oc 80 77 (.fadr 3 (Tm 79)),Oc 81 77 (.load 1 false (Tm 80)),Oj 82 77 7,Oc 83 77 (.iadr 4 (Tm 82) (Kz 0)),Oc 84 77 (.fadr 3 (Tm 83)),Oc 85 77 (.load 1 false (Tm 84)),Oc 86 77 (.bin .lss (Tm 81) (Tm 85)),Od 87 73 (.pick (Tm 77) (Tm 86) Kg),Ou 88 73 87,Om 69 88]) (.cond (Tm 69) (.regionW [(Om 89 6,.f),(Oa 90 (.iadr 4 (Tm 89) (Kz 0)),.f),(Oz 91 0 90,.f),(Oq 92 3 true 91,.f),(Oa 93 (.call 89 [Tm 92]),.s),(Om 94 6,.f),(Oa 95 (.iadr 4 (Tm 94) (Kz 0)),.s),(Oz 96 3 95,.s),(Oq 97 1 false 96,.s),(Oa 98 (.build (.agg [.p (.bool false),.tight [],.tight [],.p (.int .i64 0)]) [(0,3,(Tm 93)),(3,1,(Tm 97))]),.f),(Om 99 6,.f),(Oa 100 (.slSl 4 (Tm 99) (some (Kz 1)) none none),.s),(Oy 4 8 98,.s),(Om 6 100,.f)]) (.seq (.regionD [Om 102 6,Oa 103 (.len (Tm 102)),Oa 104 (.bin .eql (Tm 103) (Kz 0)),Om 105 104,Oo 106 105 7,Od 107 105 (.iadr 4 (Tm 106) (Kz 0)),Od 108 105 (.fadr 3 (Tm 107)),Od 109 105 (.load 1 false (Tm 108)),Oo 110 105 6,Od 111 105 (.iadr 4 (Tm 110) (Kz 0)),Od 112 105 (.fadr 3 (Tm 111)),Od 113 105 (.load 1 false (Tm 112)),Od 114 105 (.bin .lss (Tm 109) (Tm 113)),Ou 115 105 114,Om 101 115]) (.cond (Tm 101) (.regionW [(Om 116 7,.f),(Oa 117 (.iadr 4 (Tm 116) (Kz 0)),.f),(Oz 118 0 117,.f),(Oq 119 3 true 118,.f),(Oa 120 (.call 89 [Tm 119]),.s),(Om 121 7,.f),(Oa 122 (.iadr 4 (Tm 121) (Kz 0)),.s),(Oz 123 3 122,.s),(Oq 124 1 false 123,.s),(Oa 125 (.build (.agg [.p (.bool false),.tight [],.tight [],.p (.int .i64 0)])
 [(0,3,(Tm 120)),(3,1,(Tm 124))]),.f),(Om 126 7,.f),(Oa 127 (.slSl 4 (Tm 126) (some (Kz 1)) none none),.s),(Oy 4 8 125,.s),(Om 7 127,.f)]) (.seq (.region [Om 43 6,Oa 44 (.iadr 4 (Tm 43) (Kz 0)),Oz 45 3 44,Oq 46 1 false 45,Oz 47 3 8,Oy 1 47 46]) (.seq (.seq (.regionW [(Om 49 6,.f),(Oa 50 (.iadr 4 (Tm 49) (Kz 0)),.f),(Oz 51 0 50,.f),(Oq 52 3 true 51,.f),(Om 53 7,.f),(Oa 54 (.iadr 4 (Tm 53) (Kz 0)),.f),(Oz 55 0 54,.f),(Oq 56 3 true 55,.f),(Oa 57 (.call 91 [Tm 52,Tm 56]),.f),(Om 48 57,.f),(Ox 58 48 0,.f),(Ox 59 48 1,.f),(Oz 60 0 8,.f),(Oy 3 60 58,.f),(Om 5 59,.f)]) (.seq (.region [Om 61 5,Oa 62 (.bin .neq (Tm 61) (Kz 0))]) (.cond (Tm 62) (.seq (.region [Oa 63 (.build Zp []),Om 64 5,Oy 4 4 63,Om 5 64]) (.ret)) (.skip)))) (.regionD [Om 65 6,Oa 66 (.slSl 4 (Tm 65) (some (Kz 1)) none none),Om 67 7,Oa 68 (.slSl 4 (Tm 67) (some (Kz 1)) none none),Om 6 66,Om 7 68])))))))) (.seq (.region [Oz 128 0 8,Oq 129 3 true 128,Oa 130 (.call 56 [Tm 129]),Oa 131 (.bin .neq (Tm 130) (Kz 0))]) (.cond (Tm 131) (.region [Oz 132 0 4,Oq 133 1 false 132,Oq 134 4 true 8,Oa 135 (.buildSl 4 70 (.agg [.p (.bool false),.tight [],.tight [],.p (.int .i64 0)]) 1 [(0,(Tm 134))]),Oa 136 (.app 4 64 70 (Tm 133) (Tm 135)),Oz 137 0 4,Oy 1 137 136]) (.skip))))))))
def lf46 : LFunc := ⟨139,[.cell 4 4 true,.slot 5],.seq (.region [Oa 2 (.newv 4 27 (Tm 0)),Oa 3 (.newv 4 27 (Tm 1)),Oa 4 (.newv 4 27 (.cst Zp)),Oa 5 (.mov (Kz 0))]) (.seq (.seq (.region [Oq 9 4 true 2,Oa 10 (.call 84 [Tm 9]),Oa 11 (.un .not (Tm 10)),Om 12 11,Od 13 12 (.load 4 true (Tm 3)),Od 14 12 (.call 84 [Tm 13]),Od 15 12 (.un .not (Tm 14)),Ou 16 12 15]) (.cond (Tm 16) (.seq (.region [Oq 17 4 true 4,Oy 4 4 17,Oa 5 (.mov (Kz 1))]) (.ret)) (.skip))) (.seq (.seq (.region [Oz 19 1 2,Oq 20 3 true 19,Oz 21 1 3,Oq 22 3 true 21,Oa 23 (.call 91 [Tm 20,Tm 22]),Om 18 23,Ox 24 18 0,Ox 25 18 1,Oz 26 1 4,Oy 3 26 24,Om 5 25]) (.seq (.region [Om 27 5,Oa 28 (.bin .neq (Tm 27) (Kz 0))]) (.cond (Tm 28) (.seq (.region [Oa 29 (.build Zp []),Om 30 5,Oy 4 4 29,Om 5 30]) (.ret)) (.skip)))) (.seq (.regionD [Oz 31 0 2,Oq 32 1 false 31,Oz 33 0 3,Oq 34 1 false 33,Om 6 32,Om 7 34]) (.seq (lf46_B0) (.seq (.region [Oq 138 4 true 4,Oy 4 4 138,Oa 5 (.mov (Kz 0))]) (.ret))))))⟩
theorem low46 : lowFunc Tryz.prog gl0 46 = some lf46 := Go.Abs.lowF (by kernel_rfl)
def lf43_B0 : LCode := .block 0 (.loop (.seq (.region [Oa 37 (.bin .lss (Tm 36) (Tm 35))]) (.seq (.cond (Tm 37) (.skip) (.exit 0)) (.seq (.block 1 (.seq (.region [Oa 38 (.iadr 4 (Tm 34) (Tm 36)),Oq 39 4 true 38,Oa 7 (.newv 4 70 (.cst (.agg [.p (.bool false),.tight [],.tight [],.p (.int .i64 0)]))),Oy 4 7 39]) (.seq (.seq (.region [Oz 41 0 7,Oq 42 3 true 41,Oq 43 3 true 3,Oa 44 (.call 86 [Tm 42,Tm 43]),Om 40 44,Ox 45 40 0,Ox 46 40 1,Oz 47 0 7,Oy 3 47 45,Om 5 46]) (.seq (.region [Om 48 5,Oa 49 (.bin .neq (Tm 48) (Kz 0))]) (.cond (Tm 49) (.seq (.region [Oa 50 (.build Zp []),Om 51 5,Oy 4 4 50,Om 5 51]) (.ret)) (.skip)))) (.region [Oz 52 0 4,Oq 53 1 false 52,Oq 54 4 true 7,Oa 55 (.buildSl 4 70 (.agg [.p (.bool false),.tight [],.tight [],.p (.int .i64 0)]) 1 [(0,(Tm 54))]),Oa 56 (.app 4 64 70 (Tm 53) (Tm 55)),Oz 57 0 4,Oy 1 57 56])))) (.region [Oa 58 (.bin .add (Tm 36) (Kz 1)),Om 36 58])))))
def lf43 : LFunc := ⟨60,[.cell 4 4 true,.slot 5],.seq (.region [Oa 2 (.newv 4 27 (Tm 0)),Oa 3 (.newv 3 25 (Tm 1)),Oa 4 (.newv 4 27 (.cst Zp)),Oa 5 (.mov (Kz 0))]) (.seq (.seq (.region [Oq 8 4 true 2,Oa 9 (.call 84 [Tm 8]),Oa 10 (.un .not (Tm 9)),Om 11 10,Od 12 11 (.load 3 true (Tm 3)),Od 13 11 (.call 85 [Tm 12]),Od 14 11 (.un .not (Tm 13)),Ou 15 11 14]) (.cond (Tm 15) (.seq (.region [Oq 16 4 true 4,Oy 4 4 16,Oa 5 (.mov (Kz 1))]) (.ret)) (.skip))) (.seq (.seq (.region [Oz 18 1 2,Oq 19 3 true 18,Oq 20 3 true 3,Oa 21 (.call 86 [Tm 19,Tm 20]),Om 17 21,Ox 22 17 0,Ox 23 17 1,Oz 24 1 4,Oy 3 24 22,Om 5 23]) (.seq (.region [Om 25 5,Oa 26 (.bin .neq (Tm 25) (Kz 0))]) (.cond (Tm 26) (.seq (.region [Oa 27 (.build Zp []),Om 28 5,Oy 4 4 27,Om 5 28]) (.ret)) (.skip)))) (.seq (.seq (.region [Oq 29 3 true 3,Oa 30 (.call 56 [Tm 29]),Oa 31 (.bin .eql (Tm 30) (Kz 0))]) (.cond (Tm 31) (.seq (.region [Oq 32 4 true 4,Oy 4 4 32,Oa 5 (.mov (Kz 0))]) (.ret)) (.skip))) (.seq (.seq (.region [Oz 33 0 2,Oq 34 1 false 33,Oa 35 (.len (Tm 34)),Oa 36 (.mov (Kz 0))]) (lf43_B0)) (.seq (.region [Oq 59 4 true 4,Oy 4 4 59,Oa 5 (.mov (Kz 0))]) (.ret))))))⟩
theorem low43 : lowFunc Tryz.prog gl0 43 = some lf43 := Go.Abs.lowF (by kernel_rfl)
def lf57 : LFunc := ⟨42,[.cell 4 4 true,.slot 5],.seq (.region [Oa 2 (.newv 4 27 (Tm 0)),Oa 4 (.newv 4 27 (.cst Zp)),Oa 5 (.mov (Kz 0))]) (.seq (.region [Oq 9 4 true 2,Om 10 1,Oa 11 (.call 88 [Tm 9,Tm 10]),Om 6 11]) (.seq (.seq (.region [Om 12 6,Oa 13 (.bin .lss (Tm 12) (Kz 0)),Om 14 13,Od 15 14 (.load 4 true (Tm 2)),Od 16 14 (.call 84 [Tm 15]),Od 17 14 (.un .not (Tm 16)),Ou 18 14 17]) (.cond (Tm 18) (.seq (.region [Oa 19 (.build Zp []),Oy 4 4 19,Oa 5 (.mov (Kz 1))]) (.ret)) (.skip))) (.seq (.regionW [(Oa 21 (.call 95 [.cst (.p (.int .i64 (-1))),.cst (.p (.int .i64 1))]),.t),(Oz 22 0 2,.s),(Oq 23 1 false 22,.s),(Om 24 6,.f),(Oa 25 (.iadr 4 (Tm 23) (Tm 24)),.s),(Oz 26 0 25,.s),(Oq 27 3 true 26,.s),(Oa 28 (.call 96 [Tm 21,Tm 27]),.t),(Om 20 28,.f),(Ox 29 20 0,.f),(Ox 30 20 1,.f),(Oa 7 (.newv 3 25 (.cst Zr)),.s),(Oy 3 7 29,.f),(Om 8 30,.f)]) (.seq (.seq (.region [Om 31 8,Oa 32 (.bin .neq (Tm 31) (Kz 0))]) (.cond (Tm 32) (.seq (.region [Oa 33 (.build Zp []),Om 34 8,Oy 4 4 33,Om 5 34]) (.ret)) (.skip))) (.seq (.regionW [(Oq 35 4 true 2,.f),(Om 36 1,.f),(Oa 37 (.call 104 [Tm 35,Tm 36]),.s),(Oq 38 3 true 7,.s),(Oa 39 (.call 43 [Tm 37,Tm 38]),.f),(Ox 40 39 0,.f),(Ox 41 39 1,.f),(Oy 4 4 40,.f),(Om 5 41,.f)]) (.ret))))))⟩
theorem low57 : lowFunc Tryz.prog gl0 57 = some lf57 := Go.Abs.lowF (by kernel_rfl)
def lf108_B0 : LCode := .block 0 (.loop (.seq (.region [Oa 27 (.bin .lss (Tm 26) (Tm 25))]) (.seq (.cond (Tm 27) (.skip) (.exit 0)) (.seq (.block 1 (.seq (.region [Oa 28 (.iadr 4 (Tm 24) (Tm 26)),Oq 29 4 true 28,Oa 8 (.newv 4 70 (.cst (.agg [.p (.bool false),.tight [],.tight [],.p (.int .i64 0)]))),Oy 4 8 29]) (.seq (.region [Om 30 1,Oz 31 3 8,Oq 32 1 false 31,Oa 33 (.callv (Tm 30) [Tm 32]),Oa 9 (.newv 3 25 (.cst Zr)),Oy 3 9 33]) (.seq (.seq (.region [Oq 34 3 true 9,Oa 35 (.call 85 [Tm 34]),Oa 36 (.un .not (Tm 35))]) (.cond (Tm 36) (.seq (.region [Oa 37 (.build Zr []),Oy 3 4 37,Oa 5 (.mov (Kz 1))]) (.ret)) (.skip))) (.region [Om 38 6,Oq 39 3 true 9,Oa 40 (.buildSl 3 25 Zr 1 [(0,(Tm 39))]),Oa 41 (.app 3 56 25 (Tm 38) (Tm 40)),Om 6 41]))))) (.region [Oa 42 (.bin .add (Tm 26) (Kz 1)),Om 26 42])))))
def lf108_B1 : LCode := .block 2 (.loop (.seq (.region [Oa 50 (.bin .lss (Tm 49) (Tm 48))]) (.seq (.cond (Tm 50) (.skip) (.exit 2)) (.seq (.block 3 (.seq (.region [Om 51 49,Oa 52 (.iadr 4 (Tm 47) (Tm 49)),Oq 53 4 true 52,Oa 12 (.newv 4 70 (.cst (.agg [.p (.bool false),.tight [],.tight [],.p (.int .i64 0)]))),Om 11 51,Oy 4 12 53]) (.seq (.regionW [(Oz 55 0 12,.s),(Oq 56 3 true 55,.s),(Om 57 6,.f),(Om 58 11,.f),(Oa 59 (.iadr 3 (Tm 57) (Tm 58)),.s),(Oq 60 3 true 59,.s),(Oa 61 (.call 86 [Tm 56,Tm 60]),.t),(Om 54 61,.f),(Ox 62 54 0,.f),(Ox 63 54 1,.f),(Oa 13 (.newv 3 25 (.cst Zr)),.s),(Oy 3 13 62,.f),(Om 14 63,.f)]) (.seq (.seq (.region [Om 64 14,Oa 65 (.bin .neq (Tm 64) (Kz 0))]) (.cond (Tm 65) (.seq (.region [Oa 66 (.build Zr []),Om 67 14,Oy 3 4 66,Om 5 67]) (.ret)) (.skip))) (.seq (.region [Oq 69 3 true 10,Oq 70 3 true 13,Oa 71 (.call 91 [Tm 69,Tm 70]),Om 68 71,Ox 72 68 0,Ox 73 68 1,Oy 3 10 72,Om 14 73]) (.seq (.region [Om 74 14,Oa 75 (.bin .neq (Tm 74) (Kz 0))]) (.cond (Tm 75) (.seq (.region [Oa 76 (.build Zr []),Om 77 14,Oy 3 4 76,Om 5 77]) (.ret)) (.skip)))))))) (.region [Oa 78 (.bin .add (Tm 49) (Kz 1)),Om 49 78])))))
def lf108 : LFunc := ⟨80,[.cell 4 3 true,.slot 5],.seq (.region [Oa 2 (.newv 4 27 (Tm 0)),Oa 4 (.newv 3 25 (.cst Zr)),Oa 5 (.mov (Kz 0))]) (.seq (.seq (.region [Oq 15 4 true 2,Oa 16 (.call 84 [Tm 15]),Oa 17 (.un .not (Tm 16)),Om 18 17,Oo 19 18 1,Od 20 18 (.eqN false true (Tm 19) (.cst (.p .nilf))),Ou 21 18 20]) (.cond (Tm 21) (.seq (.region [Oa 22 (.build Zr []),Oy 3 4 22,Oa 5 (.mov (Kz 1))]) (.ret)) (.skip))) (.seq (.region [Oa 6 (.mov (.cst (.tight [])))]) (.seq (.seq (.region [Oz 23 0 2,Oq 24 1 false 23,Oa 25 (.len (Tm 24)),Oa 26 (.mov (Kz 0))]) (lf108_B0)) (.seq (.region [Oz 43 1 2,Oq 44 3 true 43,Oa 45 (.call 89 [Tm 44]),Oa 10 (.newv 3 25 (.cst Zr)),Oy 3 10 45]) (.seq (.seq (.region [Oz 46 0 2,Oq 47 1 false 46,Oa 48 (.len (Tm 47)),Oa 49 (.mov (Kz 0))]) (lf108_B1)) (.seq (.region [Oq 79 3 true 10,Oy 3 4 79,Oa 5 (.mov (Kz 0))]) (.ret)))))))⟩
theorem low108 : lowFunc Tryz.prog gl0 108 = some lf108 := Go.Abs.lowF (by kernel_rfl)
def lf84_B0 : LCode := .block 0 (.loop (.seq (.region [Oa 9 (.bin .lss (Tm 8) (Tm 7))]) (.seq (.cond (Tm 9) (.skip) (.exit 0)) (.seq (.block 1 (.seq (.region [Om 10 8,Oa 11 (.iadr 4 (Tm 6) (Tm 8)),Oq 12 4 true 11,Oa 4 (.newv 4 70 (.cst (.agg [.p (.bool false),.tight [],.tight [],.p (.int .i64 0)]))),Om 3 10,Oy 4 4 12]) (.seq (.regionD [Oz 13 3 4,Oq 14 1 false 13,Oa 15 (.bin .lss (Tm 14) (Kz 0)),Om 16 15,Oo 17 16 3,Od 18 16 (.bin .gtr (Tm 17) (Kz 0)),Oo 19 16 18,Oc 20 19 (.fadr 3 (Tm 4)),Oc 21 19 (.load 1 false (Tm 20)),Oc 22 19 (.fadr 0 (Tm 1)),Oc 23 19 (.load 1 false (Tm 22)),Oj 24 19 3,Oc 25 19 (.bin .sub (Tm 24) (Kz 1)),Oc 26 19 (.iadr 4 (Tm 23) (Tm 25)),Oc 27 19 (.fadr 3 (Tm 26)),Oc 28 19 (.load 1 false (Tm 27)),Oc 29 19 (.bin .leq (Tm 21) (Tm 28)),Od 30 16 (.pick (Tm 19) (Tm 29) Kg),Ou 31 16 30,Om 32 31,Od 33 32 (.fadr 0 (Tm 4)),Od 34 32 (.load 3 true (Tm 33)),Od 35 32 (.call 85 [Tm 34]),Od 36 32 (.un .not (Tm 35)),Ou 37 32 36,Om 38 37,Od 39 38 (.fadr 0 (Tm 4)),Od 40 38 (.load 3 true (Tm 39)),Od 41 38 (.call 56 [Tm 40]),Od 42 38 (.bin .eql (Tm 41) (Kz 0)),Ou 43 38 42]) (.cond (Tm 43) (.seq (.region [Oa 2 (.mov Kg)]) (.ret)) (.skip))))) (.region [Oa 44 (.bin .add (Tm 8) (Kz 1)),Om 8 44])))))
def lf84 : LFunc := ⟨48,[.slot 2],.seq (.region [Oa 1 (.newv 4 27 (Tm 0)),Oa 2 (.mov Kg)]) (.seq (.seq (.region [Oz 5 0 1,Oq 6 1 false 5,Oa 7 (.len (Tm 6)),Oa 8 (.mov (Kz 0))]) (lf84_B0)) (.seq (.region [Oz 45 1 1,Oq 46 3 true 45,Oa 47 (.call 85 [Tm 46]),Om 2 47]) (.ret)))⟩
theorem low84 : lowFunc Tryz.prog gl0 84 = some lf84 := Go.Abs.lowF (by kernel_rfl)
def lf45 : LFunc := ⟨23,[.cell 4 3 true],.seq (.region [Oa 2 (.newv 4 27 (Tm 0)),Oa 4 (.newv 3 25 (.cst Zr))]) (.seq (.seq (.region [Oq 6 4 true 2,Om 7 1,Oa 8 (.call 88 [Tm 6,Tm 7]),Om 5 8]) (.seq (.region [Om 9 5,Oa 10 (.bin .geq (Tm 9) (Kz 0)),Om 11 10,Oc 12 11 (.load 4 true (Tm 2)),Oc 13 11 (.call 84 [Tm 12]),Ot 14 11 13]) (.cond (Tm 14) (.seq (.region [Oz 15 0 2,Oq 16 1 false 15,Om 17 5,Oa 18 (.iadr 4 (Tm 16) (Tm 17)),Oz 19 0 18,Oq 20 3 true 19,Oa 21 (.call 89 [Tm 20]),Oy 3 4 21]) (.ret)) (.skip)))) (.seq (.region [Oa 22 (.call 90 []),Oy 3 4 22]) (.ret)))⟩
theorem low45 : lowFunc Tryz.prog gl0 45 = some lf45 := Go.Abs.lowF (by kernel_rfl)
def lf93_B0 : LCode := .block 0 (.loop (.seq (.region [Oa 13 (.bin .lss (Tm 12) (Tm 11))]) (.seq (.cond (Tm 13) (.skip) (.exit 0)) (.seq (.block 1 (.seq (.region [Oa 14 (.iadr 4 (Tm 10) (Tm 12)),Oq 15 4 true 14,Oa 4 (.newv 4 70 (.cst (.agg [.p (.bool false),.tight [],.tight [],.p (.int .i64 0)]))),Oy 4 4 15]) (.regionW [(Oz 16 0 2,.s),(Oq 17 1 false 16,.s),(Oz 18 0 4,.f),(Oq 19 3 true 18,.f),(Oa 20 (.call 89 [Tm 19]),.s),(Oz 21 3 4,.s),(Oq 22 1 false 21,.s),(Oa 23 (.build (.agg [.p (.bool false),.tight [],.tight [],.p (.int .i64 0)]) [(0,3,(Tm 20)),(3,1,(Tm 22))]),.f),(Oa 24 (.buildSl 4 70 (.agg [.p (.bool false),.tight [],.tight [],.p (.int .i64 0)]) 1 [(0,(Tm 23))]),.s),(Oa 25 (.app 4 64 70 (Tm 17) (Tm 24)),.f),(Oz 26 0 2,.f),(Oy 1 26 25,.f)]))) (.region [Oa 27 (.bin .add (Tm 12) (Kz 1)),Om 12 27])))))
def lf93 : LFunc := ⟨29,[.cell 2 4 true],.seq (.region [Oa 1 (.newv 4 27 (Tm 0)),Oa 2 (.newv 4 27 (.cst Zp))]) (.seq (.region [Oz 5 1 1,Oq 6 3 true 5,Oa 7 (.call 89 [Tm 6]),Oz 8 1 2,Oy 3 8 7]) (.seq (.seq (.region [Oz 9 0 1,Oq 10 1 false 9,Oa 11 (.len (Tm 10)),Oa 12 (.mov (Kz 0))]) (lf93_B0)) (.seq (.region [Oq 28 4 true 2,Oy 4 2 28]) (.ret))))⟩
theorem low93 : lowFunc Tryz.prog gl0 93 = some lf93 := Go.Abs.lowF (by kernel_rfl)
def lf132 : LFunc := ⟨17,[.slot 4],.seq (.region [Oa 2 (.newv 4 27 (Tm 0)),Oa 3 (.newv 4 27 (Tm 1)),Oa 4 (.mov Kg)]) (.seq (.region [Oz 5 1 2,Oq 6 3 true 5,Oz 7 1 3,Oq 8 3 true 7,Oa 9 (.call 153 [Tm 6,Tm 8]),Om 10 9,Oc 11 10 (.fadr 0 (Tm 2)),Oc 12 10 (.load 1 false (Tm 11)),Oc 13 10 (.fadr 0 (Tm 3)),Oc 14 10 (.load 1 false (Tm 13)),Oc 15 10 (.call 154 [Tm 12,Tm 14,.cst (.p (.clo 155 []))]),Ot 16 10 15,Om 4 16]) (.ret))⟩
theorem low132 : lowFunc Tryz.prog gl0 132 = some lf132 := Go.Abs.lowF (by kernel_rfl)
def lf89 : LFunc := ⟨12,[.cell 2 3 true],.seq (.region [Oa 1 (.newv 3 25 (Tm 0)),Oa 2 (.newv 3 25 (.cst Zr))]) (.seq (.regionW [(Oz 3 0 1,.s),(Oq 4 1 false 3,.s),(Oz 5 1 1,.f),(Oq 6 1 false 5,.f),(Oa 7 (.call 87 [Tm 6]),.s),(Oz 8 2 1,.s),(Oq 9 1 false 8,.s),(Oa 10 (.call 87 [Tm 9]),.s),(Oa 11 (.build Zr [(0,1,(Tm 4)),(1,1,(Tm 7)),(2,1,(Tm 10))]),.f),(Oy 3 2 11,.f)]) (.ret))⟩
theorem low89 : lowFunc Tryz.prog gl0 89 = some lf89 := Go.Abs.lowF (by kernel_rfl)
def lf88 : LFunc := ⟨9,[.slot 4],.seq (.region [Oa 2 (.newv 4 27 (Tm 0)),Oa 3 (.newv 1 3 (Tm 1)),Oa 4 (.mov (Kz 0))]) (.seq (.region [Oz 5 0 2,Oq 6 1 false 5,Oa 7 (.mkf 125 [Tm 3]),Oa 8 (.call 124 [Tm 6,Tm 7]),Om 4 8]) (.ret))⟩
theorem low88 : lowFunc Tryz.prog gl0 88 = some lf88 := Go.Abs.lowF (by kernel_rfl)
def lf104 : LFunc := ⟨22,[.cell 4 4 true],.seq (.region [Oa 2 (.newv 4 27 (Tm 0)),Oa 4 (.newv 4 27 (.cst Zp))]) (.seq (.region [Oq 6 4 true 2,Om 7 1,Oa 8 (.call 88 [Tm 6,Tm 7]),Om 5 8]) (.seq (.seq (.region [Om 9 5,Oa 10 (.bin .lss (Tm 9) (Kz 0))]) (.cond (Tm 10) (.seq (.region [Oq 11 4 true 2,Oy 4 4 11]) (.ret)) (.skip))) (.seq (.regionW [(Oz 12 0 2,.f),(Oq 13 1 false 12,.f),(Oa 14 (.call 135 [Tm 13]),.s),(Om 15 5,.f),(Om 16 5,.f),(Oa 17 (.bin .add (Tm 16) (Kz 1)),.f),(Oa 18 (.call 134 [Tm 14,Tm 15,Tm 17]),.s),(Oz 19 1 2,.s),(Oq 20 3 true 19,.s),(Oa 21 (.build Zp [(0,1,(Tm 18)),(1,3,(Tm 20))]),.f),(Oy 4 4 21,.f)]) (.ret))))⟩
theorem low104 : lowFunc Tryz.prog gl0 104 = some lf104 := Go.Abs.lowF (by kernel_rfl)
def lf153 : LFunc := ⟨24,[.slot 4],.seq (.region [Oa 2 (.newv 3 25 (Tm 0)),Oa 3 (.newv 3 25 (Tm 1)),Oa 4 (.mov Kg)]) (.seq (.region [Oz 5 0 2,Oq 6 1 false 5,Oz 7 0 3,Oq 8 1 false 7,Oa 9 (.eqB false (Tm 6) (Tm 8)),Om 10 9,Oc 11 10 (.fadr 1 (Tm 2)),Oc 12 10 (.load 1 false (Tm 11)),Oc 13 10 (.fadr 1 (Tm 3)),Oc 14 10 (.load 1 false (Tm 13)),Oc 15 10 (.call 168 [Tm 12,Tm 14]),Ot 16 10 15,Om 17 16,Oc 18 17 (.fadr 2 (Tm 2)),Oc 19 17 (.load 1 false (Tm 18)),Oc 20 17 (.fadr 2 (Tm 3)),Oc 21 17 (.load 1 false (Tm 20)),Oc 22 17 (.call 168 [Tm 19,Tm 21]),Ot 23 17 22,Om 4 23]) (.ret))⟩
theorem low153 : lowFunc Tryz.prog gl0 153 = some lf153 := Go.Abs.lowF (by kernel_rfl)
def lf155 : LFunc := ⟨17,[.slot 4],.seq (.region [Oa 2 (.newv 4 70 (Tm 0)),Oa 3 (.newv 4 70 (Tm 1)),Oa 4 (.mov Kg)]) (.seq (.region [Oz 5 3 2,Oq 6 1 false 5,Oz 7 3 3,Oq 8 1 false 7,Oa 9 (.bin .eql (Tm 6) (Tm 8)),Om 10 9,Oc 11 10 (.fadr 0 (Tm 2)),Oc 12 10 (.load 3 true (Tm 11)),Oc 13 10 (.fadr 0 (Tm 3)),Oc 14 10 (.load 3 true (Tm 13)),Oc 15 10 (.call 153 [Tm 12,Tm 14]),Ot 16 10 15,Om 4 16]) (.ret))⟩
theorem low155 : lowFunc Tryz.prog gl0 155 = some lf155 := Go.Abs.lowF (by kernel_rfl)
def lf125 : LFunc := ⟨8,[.slot 3],.seq (.region [Oa 2 (.newv 4 70 (Tm 0)),Oa 3 (.mov Kg)]) (.seq (.region [Oz 4 3 2,Oq 5 1 false 4,Oq 6 1 false 1,Oa 7 (.bin .eql (Tm 5) (Tm 6)),Om 3 7]) (.ret))⟩
theorem low125 : lowFunc Tryz.prog gl0 125 = some lf125 := Go.Abs.lowF (by kernel_rfl)
def lf124_B0 : LCode := .block 0 (.loop (.seq (.region [Oa 9 (.bin .lss (Tm 8) (Tm 7))]) (.seq (.cond (Tm 9) (.skip) (.exit 0)) (.seq (.block 1 (.seq (.region [Om 10 8,Om 5 10]) (.seq (.region [Om 11 1,Om 12 0,Om 13 5,Oa 14 (.iadr 4 (Tm 12) (Tm 13)),Oq 15 4 true 14,Oa 16 (.callv (Tm 11) [Tm 15])]) (.cond (Tm 16) (.seq (.region [Om 17 5,Om 4 17]) (.ret)) (.skip))))) (.region [Oa 18 (.bin .add (Tm 8) (Kz 1)),Om 8 18])))))
def lf124 : LFunc := ⟨19,[.slot 4],.seq (.region [Oa 4 (.mov (Kz 0))]) (.seq (.seq (.region [Om 6 0,Oa 7 (.len (Tm 6)),Oa 8 (.mov (Kz 0))]) (lf124_B0)) (.seq (.region [Oa 4 (.mov (Kz (-1)))]) (.ret)))⟩
theorem low124 : lowFunc Tryz.prog gl0 124 = some lf124 := Go.Abs.lowF (by kernel_rfl)
def lf134 : LFunc := ⟨33,[.slot 6],.seq (.region [Oa 6 (.mov (.cst (.tight [])))]) (.seq (.region [Om 8 0,Om 9 1,Om 10 2,Om 11 0,Oa 12 (.len (Tm 11)),Oa 13 (.slSl 4 (Tm 8) (some (Tm 9)) (some (Tm 10)) (some (Tm 12)))]) (.seq (.seq (.region [Om 14 1,Om 15 2,Oa 16 (.bin .eql (Tm 14) (Tm 15))]) (.cond (Tm 16) (.seq (.region [Om 17 0,Om 6 17]) (.ret)) (.skip))) (.seq (.region [Om 18 0,Oa 19 (.len (Tm 18)),Om 7 19]) (.seq (.regionW [(Om 20 0,.f),(Om 21 1,.f),(Oa 22 (.slSl 4 (Tm 20) none (some (Tm 21)) none),.f),(Om 23 0,.f),(Om 24 2,.f),(Oa 25 (.slSl 4 (Tm 23) (some (Tm 24)) none none),.f),(Oa 26 (.app 4 64 70 (Tm 22) (Tm 25)),.f),(Om 0 26,.f)]) (.seq (.region [Om 27 0,Om 28 0,Oa 29 (.len (Tm 28)),Om 30 7,Oa 31 (.slSl 4 (Tm 27) (some (Tm 29)) (some (Tm 30)) none),Ob (.clr 4 (.agg [.p (.bool false),.tight [],.tight [],.p (.int .i64 0)]) (Tm 31))]) (.seq (.region [Om 32 0,Om 6 32]) (.ret)))))))⟩
theorem low134 : lowFunc Tryz.prog gl0 134 = some lf134 := Go.Abs.lowF (by kernel_rfl)
def lf135 : LFunc := ⟨8,[.slot 2],.seq (.region [Oa 2 (.mov (.cst (.tight [])))]) (.seq (.seq (.region [Om 3 0,Oa 4 (.eqS false (Tm 3) (.cst (.tight [])))]) (.cond (Tm 4) (.seq (.region [Oa 2 (.mov (.cst (.tight [])))]) (.ret)) (.skip))) (.seq (.region [Oa 5 (.buildSl 4 70 (.agg [.p (.bool false),.tight [],.tight [],.p (.int .i64 0)]) 0 []),Om 6 0,Oa 7 (.app 4 64 70 (Tm 5) (Tm 6)),Om 2 7]) (.ret)))⟩
theorem low135 : lowFunc Tryz.prog gl0 135 = some lf135 := Go.Abs.lowF (by kernel_rfl)
def lf168_B0 : LCode := .block 0 (.loop (.seq (.region [Oa 14 (.bin .lss (Tm 13) (Tm 12))]) (.seq (.cond (Tm 14) (.skip) (.exit 0)) (.seq (.block 1 (.seq (.region [Om 15 13,Om 5 15]) (.seq (.regionD [Om 16 0,Om 17 5,Oa 18 (.iadr 1 (Tm 16) (Tm 17)),Oq 19 1 false 18,Om 20 1,Om 21 5,Oa 22 (.iadr 1 (Tm 20) (Tm 21)),Oq 23 1 false 22,Oa 24 (.bin .neq (Tm 19) (Tm 23))]) (.cond (Tm 24) (.seq (.region [Oa 4 (.mov Kg)]) (.ret)) (.skip))))) (.region [Oa 25 (.bin .add (Tm 13) (Kz 1)),Om 13 25])))))
def lf168 : LFunc := ⟨26,[.slot 4],.seq (.region [Oa 4 (.mov Kg)]) (.seq (.seq (.region [Om 6 0,Oa 7 (.len (Tm 6)),Om 8 1,Oa 9 (.len (Tm 8)),Oa 10 (.bin .neq (Tm 7) (Tm 9))]) (.cond (Tm 10) (.seq (.region [Oa 4 (.mov Kg)]) (.ret)) (.skip))) (.seq (.seq (.region [Om 11 0,Oa 12 (.len (Tm 11)),Oa 13 (.mov (Kz 0))]) (lf168_B0)) (.seq (.region [Oa 4 (.mov Kt)]) (.ret))))⟩
theorem low168 : lowFunc Tryz.prog gl0 168 = some lf168 := Go.Abs.lowF (by kernel_rfl)
def lf154_B0 : LCode := .block 0 (.loop (.seq (.region [Oa 18 (.bin .lss (Tm 17) (Tm 16))]) (.seq (.cond (Tm 18) (.skip) (.exit 0)) (.seq (.block 1 (.seq (.region [Om 19 17,Oa 20 (.iadr 4 (Tm 15) (Tm 17)),Oq 21 4 true 20,Oa 8 (.newv 4 70 (.cst (.agg [.p (.bool false),.tight [],.tight [],.p (.int .i64 0)]))),Om 7 19,Oy 4 8 21]) (.seq (.region [Om 22 1,Om 23 7,Oa 24 (.iadr 4 (Tm 22) (Tm 23)),Oq 25 4 true 24,Oa 9 (.newv 4 70 (.cst (.agg [.p (.bool false),.tight [],.tight [],.p (.int .i64 0)]))),Oy 4 9 25]) (.seq (.region [Om 26 2,Oq 27 4 true 8,Oq 28 4 true 9,Oa 29 (.callv (Tm 26) [Tm 27,Tm 28]),Oa 30 (.un .not (Tm 29))]) (.cond (Tm 30) (.seq (.region [Oa 6 (.mov Kg)]) (.ret)) (.skip)))))) (.region [Oa 31 (.bin .add (Tm 17) (Kz 1)),Om 17 31])))))
def lf154 : LFunc := ⟨32,[.slot 6],.seq (.region [Oa 6 (.mov Kg)]) (.seq (.seq (.region [Om 10 0,Oa 11 (.len (Tm 10)),Om 12 1,Oa 13 (.len (Tm 12)),Oa 14 (.bin .neq (Tm 11) (Tm 13))]) (.cond (Tm 14) (.seq (.region [Oa 6 (.mov Kg)]) (.ret)) (.skip))) (.seq (.seq (.region [Om 15 0,Oa 16 (.len (Tm 15)),Oa 17 (.mov (Kz 0))]) (lf154_B0)) (.seq (.region [Oa 6 (.mov Kt)]) (.ret))))⟩
theorem low154 : lowFunc Tryz.prog gl0 154 = some lf154 := Go.Abs.lowF (by kernel_rfl)
def lf35_B0 : LCode := .block 0 (.loop (.seq (.seq (.region [Om 4 3,Oz 5 0 1,Oq 6 1 false 5,Oa 7 (.len (Tm 6)),Oa 8 (.bin .lss (Tm 4) (Tm 7)),Om 9 8,Oj 10 9 3,Oc 11 9 (.bin .lss (Tm 10) (Kz 12)),Ot 12 9 11]) (.cond (Tm 12) (.skip) (.exit 0))) (.seq (.block 1 (.seq (.region [Oz 15 0 1,Oq 16 1 false 15,Om 17 3,Oa 18 (.iadr 4 (Tm 16) (Tm 17)),Oz 19 0 18,Oq 20 3 true 19,Oa 21 (.call 36 [Tm 20]),Oa 22 (.un .not (Tm 21))]) (.cond (Tm 22) (.seq (.region [Oa 2 (.mov Kg)]) (.ret)) (.skip)))) (.region [Om 13 3,Oa 14 (.bin .add (Tm 13) (Kz 1)),Om 3 14]))))
def lf35 : LFunc := ⟨32,[.slot 2],.seq (.region [Oa 1 (.newv 4 27 (Tm 0)),Oa 2 (.mov Kg)]) (.seq (.seq (.region [Oa 3 (.mov (Kz 0))]) (lf35_B0)) (.seq (.region [Oz 23 0 1,Oq 24 1 false 23,Oa 25 (.len (Tm 24)),Oa 26 (.bin .leq (Tm 25) (Kz 10)),Om 27 26,Oc 28 27 (.fadr 1 (Tm 1)),Oc 29 27 (.load 3 true (Tm 28)),Oc 30 27 (.call 36 [Tm 29]),Ot 31 27 30,Om 2 31]) (.ret)))⟩
theorem low35 : lowFunc Tryz.prog gl0 35 = some lf35 := Go.Abs.lowF (by kernel_rfl)
def lf36 : LFunc := ⟨13,[.slot 2],.seq (.region [Oa 1 (.newv 3 25 (Tm 0)),Oa 2 (.mov Kg)]) (.seq (.region [Oz 3 1 1,Oq 4 1 false 3,Oa 5 (.len (Tm 4)),Oa 6 (.bin .leq (Tm 5) (Kz 8)),Om 7 6,Oc 8 7 (.fadr 2 (Tm 1)),Oc 9 7 (.load 1 false (Tm 8)),Oc 10 7 (.len (Tm 9)),Oc 11 7 (.bin .leq (Tm 10) (Kz 8)),Ot 12 7 11,Om 2 12]) (.ret))⟩
theorem low36 : lowFunc Tryz.prog gl0 36 = some lf36 := Go.Abs.lowF (by kernel_rfl)
end Go.Proofs.YtcfklmjgofknjaaGreat

/-
 The lowered code of the functions, as the program's form has it.
-/
namespace Go.Proofs.YtcfklmjgofknjaaGreat
open Go Go.Abs
def lf53 : LFunc := ⟨20,[.cell 4 4 true,.slot 5],.seq (.region [Oa 2 (.newv 4 27 (Tm 0)),Oa 3 (.newv 4 27 (Tm 1)),Oa 4 (.newv 4 27 (.cst Zp)),Oa 5 (.mov (Kz 0))]) (.seq (.seq (.region [Oq 6 4 true 2,Oa 7 (.call 62 [Tm 6]),Oa 8 (.un .not (Tm 7)),Om 9 8,Od 10 9 (.load 4 true (Tm 3)),Od 11 9 (.call 62 [Tm 10]),Od 12 9 (.un .not (Tm 11)),Ou 13 9 12]) (.cond (Tm 13) (.seq (.region [Oa 14 (.build Zp []),Oy 4 4 14,Oa 5 (.mov (Kz 1))]) (.ret)) (.skip))) (.seq (.region [Oq 15 4 true 2,Oq 16 4 true 3,Oa 17 (.call 99 [Tm 15,Tm 16]),Ox 18 17 0,Ox 19 17 1,Oy 4 4 18,Om 5 19]) (.ret)))⟩
theorem low53 : lowFunc Tryz.prog gl0 53 = some lf53 := Go.Abs.lowF (by kernel_rfl)
def lf99_B0 : LCode := .block 0 (.loop (.seq (.seq (.region [Om 25 9,Oz 26 0 2,Oq 27 1 false 26,Oa 28 (.len (Tm 27)),Oa 29 (.bin .lss (Tm 25) (Tm 28)),Om 30 29,Oo 31 30 10,Od 32 30 (.fadr 0 (Tm 3)),Od 33 30 (.load 1 false (Tm 32)),Od 34 30 (.len (Tm 33)),Od 35 30 (.bin .lss (Tm 31) (Tm 34)),Ou 36 30 35]) (.cond (Tm 36) (.skip) (.exit 0))) (.block 1 (.block 2 (.seq (.regionD [Om 79 10,Oz 80 0 3,Oq 81 1 false 80,Oa 82 (.len (Tm 81)),Oa 83 (.bin .geq (Tm 79) (Tm 82)),Om 84 83,Oo 85 84 9,Od 86 84 (.fadr 0 (Tm 2)),Od 87 84 (.load 1 false (Tm 86)),Od 88 84 (.len (Tm 87)),Od 89 84 (.bin .lss (Tm 85) (Tm 88)),Oo 90 84 89,Oc 91 90 (.fadr 0 (Tm 2)),Oc 92 90 (.load 1 false (Tm 91)),Oj 93 90 9,Oc 94 90 (.iadr 4 (Tm 92) (Tm 93)),Oc 95 90 (.fadr 3 (Tm 94)),Oc 96 90 (.load 1 false (Tm 95)),Oc 97 90 (.fadr 0 (Tm 3)),Oc 98 90 (.load 1 false (Tm 97)),Oj 99 90 10,Oc 100 90 (.iadr 4 (Tm 98) (Tm 99)),Oc 101 90 (.fadr 3 (Tm 100)),Oc 102 90 (.load 1 false (Tm 101)),Oc 103 90 (.bin .lss (Tm 96) (Tm 102)),Od 104 84 (.pick (Tm 90) (Tm 103) Kg),Ou 105 84 104,Om 78 105]) (.cond (Tm 78) (.seq (.regionW [(Oz 106 0 6,.s),(Oq 107 1 false 106,.s),(Oz 108 0 2,.f),(Oq 109 1 false 108,.f),(Om 110 9,.f),(Oa 111 (.iadr 4 (Tm 109) (Tm 110)),.f),(Oq 112 4 true 111,.f),(Oa 113 (.buildSl 4 70 (.agg [.p (.bool false),.tight [],.tight [],.p (.int .i64 0)]) 1 [(0,(Tm 112))]),.s),(Oa 114 (.app 4 64 70 (Tm 107) (Tm 113)),.f),(Oz 115 0 6,.f),(Oy 1 115 114,.f)]) (.region [Om 116 9,Oa 117 (.bin .add (Tm 116) (Kz 1)),Om 9 117])) (.seq (.regionD [Om 119 9,Oz 120 0 2,Oq 121 1 false 120,Oa 122 (.len (Tm 121)),Oa 123 (.bin .geq (Tm 119) (Tm 122)),Om 124 123,Od 125 124 (.fadr 0 (Tm 3)),Od 126 124 (.load 1 false (Tm 125)),Oo 127 124 10,Od 128 124 (.iadr 4 (Tm 126) (Tm 127)),Od 129 124 (.fadr 3 (Tm 128)),Od 130 124 (.load 1 false (Tm 129)),Od 131 124 (.fadr 0 (Tm 2)),Od 132 124 (.load 1 false (Tm 131)),Oo 133 124 9,Od 134 124 (.iadr 4 (Tm 132) (Tm 133)),Od 135 124 (.fadr 3 (Tm 134)),Od 136 124 (.load 1 false (Tm 135)),Od 137 124 (.bin .lss (Tm
 130) (Tm 136)),Ou 138 124 137,Om 118 138]) (.cond (Tm 118) (.seq (.regionW [(Oz 139 0 6,.s),(Oq 140 1 false 139,.s),(Oz 141 0 3,.f),(Oq 142 1 false 141,.f),(Om 143 10,.f),(Oa 144 (.iadr 4 (Tm 142) (Tm 143)),.f),(Oq 145 4 true 144,.f),(Oa 146 (.buildSl 4 70 (.agg [.p (.bool false),.tight [],.tight [],.p (.int .i64 0)]) 1 [(0,(Tm 145))]),.s),(Oa 147 (.app 4 64 70 (Tm 140) (Tm 146)),.f),(Oz 148 0 6,.f),(Oy 1 148 147,.f)]) (.region [Om 149 10,Oa 150 (.bin .add (Tm 149) (Kz 1)),Om 10 150])) (.seq (.regionW [(Oz 38 0 2,.f),(Oq 39 1 false 38,.f),(Om 40 9,.f),(Oa 41 (.iadr 4 (Tm 39) (Tm 40)),.f),(Oz 42 0 41,.f),(Oq 43 3 true 42,.f),(Oz 44 0 3,.f),(Oq 45 1 false 44,.f),(Om 46 10,.f),(Oa 47 (.iadr 4 (Tm 45) (Tm 46)),.f),(Oz 48 0 47,.f),(Oq 49 3 true 48,.f),(Oa 50 (.call 34 [Tm 43,Tm 49]),.f),(Om 37 50,.f),(Ox 51 37 0,.f),(Ox 52 37 1,.f),(Oy 3 7 51,.f),(Om 8 52,.f)]) (.seq (.seq (.region [Om 53 8,Oa 54 (.bin .neq (Tm 53) (Kz 0))]) (.cond (Tm 54) (.seq (.region [Oa 55 (.build Zp []),Om 56 8,Oy 4 4 55,Om 5 56]) (.ret)) (.skip))) (.seq (.seq (.region [Oz 57 1 7,Oq 58 1 false 57,Oa 59 (.len (Tm 58)),Oa 60 (.bin .gtr (Tm 59) (Kz 0))]) (.cond (Tm 60) (.regionW [(Oz 61 0 6,.s),(Oq 62 1 false 61,.s),(Oq 63 3 true 7,.f),(Oz 64 0 2,.f),(Oq 65 1 false 64,.f),(Om 66 9,.f),(Oa 67 (.iadr 4 (Tm 65) (Tm 66)),.f),(Oz 68 3 67,.f),(Oq 69 1 false 68,.f),(Oa 70 (.build (.agg [.p (.bool false),.tight [],.tight [],.p (.int .i64 0)]) [(0,3,(Tm 63)),(3,1,(Tm 69))]),.f),(Oa 71 (.buildSl 4 70 (.agg [.p (.bool false),.tight [],.tight [],.p (.int .i64 0)]) 1 [(0,(Tm 70))]),.s),(Oa 72 (.app 4 64 70 (Tm 62) (Tm 71)),.f),(Oz 73 0 6,.f),(Oy 1 73 72,.f)]) (.skip))) (.seq (.region [Om 74 9,Oa 75 (.bin .add (Tm 74) (Kz 1)),Om 9 75]) (.region [Om 76 10,Oa 77 (.bin .add (Tm 76) (Kz 1)),Om 10 77])))))))))))))
def lf99 : LFunc := ⟨152,[.cell 4 4 true,.slot 5],.seq (.region [Oa 2 (.newv 4 27 (Tm 0)),Oa 3 (.newv 4 27 (Tm 1)),Oa 4 (.newv 4 27 (.cst Zp)),Oa 5 (.mov (Kz 0))]) (.seq (.region [Oa 6 (.newv 4 27 (.cst Zp))]) (.seq (.region [Oz 12 1 2,Oq 13 3 true 12,Oz 14 1 3,Oq 15 3 true 14,Oa 16 (.call 34 [Tm 13,Tm 15]),Om 11 16,Ox 17 11 0,Ox 18 11 1,Oa 7 (.newv 3 25 (.cst Zr)),Oy 3 7 17,Om 8 18]) (.seq (.seq (.region [Om 19 8,Oa 20 (.bin .neq (Tm 19) (Kz 0))]) (.cond (Tm 20) (.seq (.region [Oa 21 (.build Zp []),Om 22 8,Oy 4 4 21,Om 5 22]) (.ret)) (.skip))) (.seq (.region [Oq 23 3 true 7,Oz 24 1 6,Oy 3 24 23]) (.seq (.region [Oa 9 (.mov (Kz 0)),Oa 10 (.mov (Kz 0))]) (.seq (lf99_B0) (.seq (.region [Oq 151 4 true 6,Oy 4 4 151,Oa 5 (.mov (Kz 0))]) (.ret))))))))⟩
theorem low99 : lowFunc Tryz.prog gl0 99 = some lf99 := Go.Abs.lowF (by kernel_rfl)
def lf52_B0 : LCode := .block 0 (.loop (.seq (.seq (.region [Om 27 7,Oz 28 0 2,Oq 29 1 false 28,Oa 30 (.len (Tm 29)),Oa 31 (.bin .lss (Tm 27) (Tm 30))]) (.cond (Tm 31) (.skip) (.exit 0))) (.seq (.block 1 (.seq (.regionW [(Oz 35 0 2,.s),(Oq 36 1 false 35,.s),(Om 37 7,.f),(Oa 38 (.iadr 4 (Tm 36) (Tm 37)),.s),(Oz 39 0 38,.s),(Oq 40 3 true 39,.s),(Oq 41 3 true 3,.s),(Oa 42 (.call 98 [Tm 40,Tm 41]),.t),(Om 34 42,.f),(Ox 43 34 0,.f),(Ox 44 34 1,.f),(Oa 8 (.newv 3 25 (.cst Zr)),.s),(Oy 3 8 43,.f),(Om 9 44,.f)]) (.seq (.seq (.region [Om 45 9,Oa 46 (.bin .neq (Tm 45) (Kz 0))]) (.cond (Tm 46) (.seq (.region [Oa 47 (.build Zp []),Om 48 9,Oy 4 4 47,Om 5 48]) (.ret)) (.skip))) (.regionW [(Oz 49 0 6,.s),(Oq 50 1 false 49,.s),(Oq 51 3 true 8,.f),(Oz 52 0 2,.f),(Oq 53 1 false 52,.f),(Om 54 7,.f),(Oa 55 (.iadr 4 (Tm 53) (Tm 54)),.f),(Oz 56 3 55,.f),(Oq 57 1 false 56,.f),(Oa 58 (.build (.agg [.p (.bool false),.tight [],.tight [],.p (.int .i64 0)]) [(0,3,(Tm 51)),(3,1,(Tm 57))]),.f),(Oa 59 (.buildSl 4 70 (.agg [.p (.bool false),.tight [],.tight [],.p (.int .i64 0)]) 1 [(0,(Tm 58))]),.s),(Oa 60 (.app 4 64 70 (Tm 50) (Tm 59)),.f),(Oz 61 0 6,.f),(Oy 1 61 60,.f)])))) (.region [Om 32 7,Oa 33 (.bin .add (Tm 32) (Kz 1)),Om 7 33]))))
def lf52 : LFunc := ⟨76,[.cell 4 4 true,.slot 5],.seq (.region [Oa 2 (.newv 4 27 (Tm 0)),Oa 3 (.newv 3 25 (Tm 1)),Oa 4 (.newv 4 27 (.cst Zp)),Oa 5 (.mov (Kz 0))]) (.seq (.seq (.region [Oq 12 4 true 2,Oa 13 (.call 62 [Tm 12]),Oa 14 (.un .not (Tm 13)),Om 15 14,Od 16 15 (.load 3 true (Tm 3)),Od 17 15 (.call 37 [Tm 16]),Od 18 15 (.un .not (Tm 17)),Ou 19 15 18]) (.cond (Tm 19) (.seq (.region [Oa 20 (.build Zp []),Oy 4 4 20,Oa 5 (.mov (Kz 1))]) (.ret)) (.skip))) (.seq (.seq (.region [Oz 21 1 3,Oq 22 1 false 21,Oa 23 (.len (Tm 22)),Oa 24 (.bin .eql (Tm 23) (Kz 0))]) (.cond (Tm 24) (.seq (.region [Oa 25 (.call 67 []),Oa 26 (.build Zp [(1,3,(Tm 25))]),Oy 4 4 26,Oa 5 (.mov (Kz 0))]) (.ret)) (.skip))) (.seq (.region [Oa 6 (.newv 4 27 (.cst Zp))]) (.seq (.seq (.region [Oa 7 (.mov (Kz 0))]) (lf52_B0)) (.seq (.region [Oz 63 1 2,Oq 64 3 true 63,Oq 65 3 true 3,Oa 66 (.call 98 [Tm 64,Tm 65]),Om 62 66,Ox 67 62 0,Ox 68 62 1,Oa 10 (.newv 3 25 (.cst Zr)),Oy 3 10 67,Om 11 68]) (.seq (.seq (.region [Om 69 11,Oa 70 (.bin .neq (Tm 69) (Kz 0))]) (.cond (Tm 70) (.seq (.region [Oa 71 (.build Zp []),Om 72 11,Oy 4 4 71,Om 5 72]) (.ret)) (.skip))) (.seq (.region [Oq 73 3 true 10,Oz 74 1 6,Oy 3 74 73]) (.seq (.region [Oq 75 4 true 6,Oy 4 4 75,Oa 5 (.mov (Kz 0))]) (.ret)))))))))⟩
theorem low52 : lowFunc Tryz.prog gl0 52 = some lf52 := Go.Abs.lowF (by kernel_rfl)
def lf59 : LFunc := ⟨39,[.cell 4 4 true,.slot 5],.seq (.region [Oa 2 (.newv 4 27 (Tm 0)),Oa 4 (.newv 4 27 (.cst Zp)),Oa 5 (.mov (Kz 0))]) (.seq (.region [Oq 9 4 true 2,Om 10 1,Oa 11 (.call 29 [Tm 9,Tm 10]),Oa 6 (.newv 3 25 (.cst Zr)),Oy 3 6 11]) (.seq (.seq (.region [Oq 12 4 true 2,Oa 13 (.call 62 [Tm 12]),Oa 14 (.un .not (Tm 13)),Om 15 14,Od 16 15 (.fadr 1 (Tm 6)),Od 17 15 (.load 1 false (Tm 16)),Od 18 15 (.len (Tm 17)),Od 19 15 (.bin .eql (Tm 18) (Kz 0)),Ou 20 15 19]) (.cond (Tm 20) (.seq (.region [Oa 21 (.build Zp []),Oy 4 4 21,Oa 5 (.mov (Kz 1))]) (.ret)) (.skip))) (.seq (.regionW [(Oa 23 (.call 31 [.cst (.p (.int .i64 (-1))),.cst (.p (.int .i64 1))]),.t),(Oq 24 3 true 6,.s),(Oa 25 (.call 73 [Tm 23,Tm 24]),.t),(Om 22 25,.f),(Ox 26 22 0,.f),(Ox 27 22 1,.f),(Oa 7 (.newv 3 25 (.cst Zr)),.s),(Oy 3 7 26,.f),(Om 8 27,.f)]) (.seq (.seq (.region [Om 28 8,Oa 29 (.bin .neq (Tm 28) (Kz 0))]) (.cond (Tm 29) (.seq (.region [Oa 30 (.build Zp []),Om 31 8,Oy 4 4 30,Om 5 31]) (.ret)) (.skip))) (.seq (.regionW [(Oq 32 4 true 2,.f),(Om 33 1,.f),(Oa 34 (.call 106 [Tm 32,Tm 33]),.s),(Oq 35 3 true 7,.s),(Oa 36 (.call 52 [Tm 34,Tm 35]),.f),(Ox 37 36 0,.f),(Ox 38 36 1,.f),(Oy 4 4 37,.f),(Om 5 38,.f)]) (.ret))))))⟩
theorem low59 : lowFunc Tryz.prog gl0 59 = some lf59 := Go.Abs.lowF (by kernel_rfl)
def lf25_B0 : LCode := .block 0 (.loop (.seq (.seq (.region [Om 6 5,Om 7 0,Oa 8 (.len (Tm 7)),Oa 9 (.bin .lss (Tm 6) (Tm 8))]) (.cond (Tm 9) (.skip) (.exit 0))) (.seq (.block 1 (.seq (.region [Om 12 0,Om 13 5,Oa 14 (.iadr 4 (Tm 12) (Tm 13)),Oz 15 0 14,Oq 16 1 false 15,Om 17 1,Oa 18 (.bin .eql (Tm 16) (Tm 17))]) (.cond (Tm 18) (.seq (.region [Om 19 0,Om 20 5,Oa 21 (.iadr 4 (Tm 19) (Tm 20)),Oz 22 1 21,Oq 23 3 true 22,Oy 3 4 23]) (.ret)) (.skip)))) (.region [Om 10 5,Oa 11 (.bin .add (Tm 10) (Kz 1)),Om 5 11]))))
def lf25 : LFunc := ⟨25,[.cell 4 3 true],.seq (.region [Oa 4 (.newv 3 25 (.cst Zr))]) (.seq (.seq (.region [Oa 5 (.mov (Kz 0))]) (lf25_B0)) (.seq (.region [Oa 24 (.call 67 []),Oy 3 4 24]) (.ret)))⟩
theorem low25 : lowFunc Tryz.prog gl0 25 = some lf25 := Go.Abs.lowF (by kernel_rfl)
def lf64_B0 : LCode := .block 0 (.loop (.seq (.seq (.region [Om 15 6,Oz 16 0 2,Oq 17 1 false 16,Oa 18 (.len (Tm 17)),Oa 19 (.bin .lss (Tm 15) (Tm 18))]) (.cond (Tm 19) (.skip) (.exit 0))) (.seq (.block 1 (.seq (.region [Om 22 1,Oz 23 0 2,Oq 24 1 false 23,Om 25 6,Oa 26 (.iadr 4 (Tm 24) (Tm 25)),Oz 27 3 26,Oq 28 1 false 27,Oa 29 (.call 25 [Tm 22,Tm 28]),Oa 30 (.call 37 [Tm 29]),Oa 31 (.un .not (Tm 30))]) (.cond (Tm 31) (.seq (.region [Oa 32 (.build Zr []),Oy 3 4 32,Oa 5 (.mov (Kz 1))]) (.ret)) (.skip)))) (.region [Om 20 6,Oa 21 (.bin .add (Tm 20) (Kz 1)),Om 6 21]))))
def lf64_B1 : LCode := .block 2 (.loop (.seq (.seq (.region [Om 35 8,Oz 36 0 2,Oq 37 1 false 36,Oa 38 (.len (Tm 37)),Oa 39 (.bin .lss (Tm 35) (Tm 38))]) (.cond (Tm 39) (.skip) (.exit 2))) (.seq (.block 3 (.seq (.regionW [(Oz 43 0 2,.s),(Oq 44 1 false 43,.s),(Om 45 8,.f),(Oa 46 (.iadr 4 (Tm 44) (Tm 45)),.s),(Oz 47 0 46,.s),(Oq 48 3 true 47,.s),(Om 49 1,.f),(Oz 50 0 2,.s),(Oq 51 1 false 50,.s),(Om 52 8,.f),(Oa 53 (.iadr 4 (Tm 51) (Tm 52)),.s),(Oz 54 3 53,.s),(Oq 55 1 false 54,.s),(Oa 56 (.call 25 [Tm 49,Tm 55]),.t),(Oa 57 (.call 98 [Tm 48,Tm 56]),.t),(Om 42 57,.f),(Ox 58 42 0,.f),(Ox 59 42 1,.f),(Oa 9 (.newv 3 25 (.cst Zr)),.s),(Oy 3 9 58,.f),(Om 10 59,.f)]) (.seq (.seq (.region [Om 60 10,Oa 61 (.bin .eql (Tm 60) (Kz 0))]) (.cond (Tm 61) (.region [Oq 63 3 true 7,Oq 64 3 true 9,Oa 65 (.call 34 [Tm 63,Tm 64]),Om 62 65,Ox 66 62 0,Ox 67 62 1,Oy 3 7 66,Om 10 67]) (.skip))) (.seq (.region [Om 68 10,Oa 69 (.bin .neq (Tm 68) (Kz 0))]) (.cond (Tm 69) (.seq (.region [Oa 70 (.build Zr []),Om 71 10,Oy 3 4 70,Om 5 71]) (.ret)) (.skip)))))) (.region [Om 40 8,Oa 41 (.bin .add (Tm 40) (Kz 1)),Om 8 41]))))
def lf64 : LFunc := ⟨73,[.cell 4 3 true,.slot 5],.seq (.region [Oa 2 (.newv 4 27 (Tm 0)),Oa 4 (.newv 3 25 (.cst Zr)),Oa 5 (.mov (Kz 0))]) (.seq (.seq (.region [Oq 11 4 true 2,Oa 12 (.call 62 [Tm 11]),Oa 13 (.un .not (Tm 12))]) (.cond (Tm 13) (.seq (.region [Oa 14 (.build Zr []),Oy 3 4 14,Oa 5 (.mov (Kz 1))]) (.ret)) (.skip))) (.seq (.seq (.region [Oa 6 (.mov (Kz 0))]) (lf64_B0)) (.seq (.region [Oz 33 1 2,Oq 34 3 true 33,Oa 7 (.newv 3 25 (.cst Zr)),Oy 3 7 34]) (.seq (.seq (.region [Oa 8 (.mov (Kz 0))]) (lf64_B1)) (.seq (.region [Oq 72 3 true 7,Oy 3 4 72,Oa 5 (.mov (Kz 0))]) (.ret))))))⟩
theorem low64 : lowFunc Tryz.prog gl0 64 = some lf64 := Go.Abs.lowF (by kernel_rfl)
def lf74_B0 : LCode := .block 0 (.loop (.seq (.seq (.region [Om 21 5,Oz 22 0 2,Oq 23 1 false 22,Oa 24 (.len (Tm 23)),Oa 25 (.bin .lss (Tm 21) (Tm 24))]) (.cond (Tm 25) (.skip) (.exit 0))) (.seq (.block 1 (.seq (.regionD [Oz 28 0 2,Oq 29 1 false 28,Om 30 5,Oa 31 (.iadr 4 (Tm 29) (Tm 30)),Oz 32 3 31,Oq 33 1 false 32,Oz 34 0 3,Oq 35 1 false 34,Om 36 5,Oa 37 (.iadr 4 (Tm 35) (Tm 36)),Oz 38 3 37,Oq 39 1 false 38,Oa 40 (.bin .neq (Tm 33) (Tm 39)),Om 41 40,Od 42 41 (.fadr 0 (Tm 2)),Od 43 41 (.load 1 false (Tm 42)),Oo 44 41 5,Od 45 41 (.iadr 4 (Tm 43) (Tm 44)),Od 46 41 (.fadr 0 (Tm 45)),Od 47 41 (.load 3 true (Tm 46)),Od 48 41 (.fadr 0 (Tm 3)),Od 49 41 (.load 1 false (Tm 48)),Oo 50 41 5,Od 51 41 (.iadr 4 (Tm 49) (Tm 50)),Od 52 41 (.fadr 0 (Tm 51)),Od 53 41 (.load 3 true (Tm 52)),Od 54 41 (.call 63 [Tm 47,Tm 53]),Od 55 41 (.un .not (Tm 54)),Ou 56 41 55]) (.cond (Tm 56) (.seq (.region [Oa 4 (.mov Kg)]) (.ret)) (.skip)))) (.region [Om 26 5,Oa 27 (.bin .add (Tm 26) (Kz 1)),Om 5 27]))))
def lf74 : LFunc := ⟨57,[.slot 4],.seq (.region [Oa 2 (.newv 4 27 (Tm 0)),Oa 3 (.newv 4 27 (Tm 1)),Oa 4 (.mov Kg)]) (.seq (.seq (.region [Oz 6 0 2,Oq 7 1 false 6,Oa 8 (.len (Tm 7)),Oz 9 0 3,Oq 10 1 false 9,Oa 11 (.len (Tm 10)),Oa 12 (.bin .neq (Tm 8) (Tm 11)),Om 13 12,Od 14 13 (.fadr 1 (Tm 2)),Od 15 13 (.load 3 true (Tm 14)),Od 16 13 (.fadr 1 (Tm 3)),Od 17 13 (.load 3 true (Tm 16)),Od 18 13 (.call 63 [Tm 15,Tm 17]),Od 19 13 (.un .not (Tm 18)),Ou 20 13 19]) (.cond (Tm 20) (.seq (.region [Oa 4 (.mov Kg)]) (.ret)) (.skip))) (.seq (.seq (.region [Oa 5 (.mov (Kz 0))]) (lf74_B0)) (.seq (.region [Oa 4 (.mov Kt)]) (.ret))))⟩
theorem low74 : lowFunc Tryz.prog gl0 74 = some lf74 := Go.Abs.lowF (by kernel_rfl)
def lf62_B0 : LCode := .block 0 (.loop (.seq (.seq (.region [Om 6 4,Oz 7 0 1,Oq 8 1 false 7,Oa 9 (.len (Tm 8)),Oa 10 (.bin .lss (Tm 6) (Tm 9))]) (.cond (Tm 10) (.skip) (.exit 0))) (.seq (.block 1 (.seq (.region [Oz 13 0 1,Oq 14 1 false 13,Om 15 4,Oa 16 (.iadr 4 (Tm 14) (Tm 15)),Oq 17 4 true 16,Oa 5 (.newv 4 70 (.cst (.agg [.p (.bool false),.tight [],.tight [],.p (.int .i64 0)]))),Oy 4 5 17]) (.seq (.seq (.region [Oz 18 3 5,Oq 19 1 false 18,Om 20 3,Oa 21 (.bin .leq (Tm 19) (Tm 20)),Om 22 21,Od 23 22 (.fadr 0 (Tm 5)),Od 24 22 (.load 3 true (Tm 23)),Od 25 22 (.call 37 [Tm 24]),Od 26 22 (.un .not (Tm 25)),Ou 27 22 26,Om 28 27,Od 29 28 (.fadr 0 (Tm 5)),Od 30 28 (.fadr 1 (Tm 29)),Od 31 28 (.load 1 false (Tm 30)),Od 32 28 (.len (Tm 31)),Od 33 28 (.bin .eql (Tm 32) (Kz 0)),Ou 34 28 33]) (.cond (Tm 34) (.seq (.region [Oa 2 (.mov Kg)]) (.ret)) (.skip))) (.region [Oz 35 3 5,Oq 36 1 false 35,Om 3 36])))) (.region [Om 11 4,Oa 12 (.bin .add (Tm 11) (Kz 1)),Om 4 12]))))
def lf62 : LFunc := ⟨40,[.slot 2],.seq (.region [Oa 1 (.newv 4 27 (Tm 0)),Oa 2 (.mov Kg)]) (.seq (.region [Oa 3 (.mov (Kz (-1)))]) (.seq (.seq (.region [Oa 4 (.mov (Kz 0))]) (lf62_B0)) (.seq (.region [Oz 37 1 1,Oq 38 3 true 37,Oa 39 (.call 37 [Tm 38]),Om 2 39]) (.ret))))⟩
theorem low62 : lowFunc Tryz.prog gl0 62 = some lf62 := Go.Abs.lowF (by kernel_rfl)
def lf29_B0 : LCode := .block 0 (.loop (.seq (.seq (.region [Om 6 5,Oz 7 0 2,Oq 8 1 false 7,Oa 9 (.len (Tm 8)),Oa 10 (.bin .lss (Tm 6) (Tm 9)),Om 11 10,Oc 12 11 (.load 4 true (Tm 2)),Oc 13 11 (.call 62 [Tm 12]),Ot 14 11 13]) (.cond (Tm 14) (.skip) (.exit 0))) (.seq (.block 1 (.seq (.region [Oz 17 0 2,Oq 18 1 false 17,Om 19 5,Oa 20 (.iadr 4 (Tm 18) (Tm 19)),Oz 21 3 20,Oq 22 1 false 21,Om 23 1,Oa 24 (.bin .eql (Tm 22) (Tm 23))]) (.cond (Tm 24) (.seq (.region [Oz 25 0 2,Oq 26 1 false 25,Om 27 5,Oa 28 (.iadr 4 (Tm 26) (Tm 27)),Oz 29 0 28,Oq 30 3 true 29,Oy 3 4 30]) (.ret)) (.skip)))) (.region [Om 15 5,Oa 16 (.bin .add (Tm 15) (Kz 1)),Om 5 16]))))
def lf29 : LFunc := ⟨32,[.cell 4 3 true],.seq (.region [Oa 2 (.newv 4 27 (Tm 0)),Oa 4 (.newv 3 25 (.cst Zr))]) (.seq (.seq (.region [Oa 5 (.mov (Kz 0))]) (lf29_B0)) (.seq (.region [Oa 31 (.call 67 []),Oy 3 4 31]) (.ret)))⟩
theorem low29 : lowFunc Tryz.prog gl0 29 = some lf29 := Go.Abs.lowF (by kernel_rfl)
def lf67 : LFunc := ⟨2,[.cell 0 3 true],.seq (.region [Oa 0 (.newv 3 25 (.cst Zr))]) (.seq (.region [Oa 1 (.call 31 [.cst (.p (.int .i64 0)),.cst (.p (.int .i64 1))]),Oy 3 0 1]) (.ret))⟩
theorem low67 : lowFunc Tryz.prog gl0 67 = some lf67 := Go.Abs.lowF (by kernel_rfl)
def lf106_B0 : LCode := .block 0 (.loop (.seq (.seq (.region [Om 10 6,Oz 11 0 2,Oq 12 1 false 11,Oa 13 (.len (Tm 12)),Oa 14 (.bin .lss (Tm 10) (Tm 13))]) (.cond (Tm 14) (.skip) (.exit 0))) (.seq (.block 1 (.seq (.region [Oz 17 0 2,Oq 18 1 false 17,Om 19 6,Oa 20 (.iadr 4 (Tm 18) (Tm 19)),Oz 21 3 20,Oq 22 1 false 21,Om 23 1,Oa 24 (.bin .neq (Tm 22) (Tm 23))]) (.cond (Tm 24) (.regionW [(Oz 25 0 5,.s),(Oq 26 1 false 25,.s),(Oz 27 0 2,.f),(Oq 28 1 false 27,.f),(Om 29 6,.f),(Oa 30 (.iadr 4 (Tm 28) (Tm 29)),.f),(Oq 31 4 true 30,.f),(Oa 32 (.buildSl 4 70 (.agg [.p (.bool false),.tight [],.tight [],.p (.int .i64 0)]) 1 [(0,(Tm 31))]),.s),(Oa 33 (.app 4 64 70 (Tm 26) (Tm 32)),.f),(Oz 34 0 5,.f),(Oy 1 34 33,.f)]) (.skip)))) (.region [Om 15 6,Oa 16 (.bin .add (Tm 15) (Kz 1)),Om 6 16]))))
def lf106 : LFunc := ⟨36,[.cell 4 4 true],.seq (.region [Oa 2 (.newv 4 27 (Tm 0)),Oa 4 (.newv 4 27 (.cst Zp))]) (.seq (.region [Oz 7 1 2,Oq 8 3 true 7,Oa 9 (.build Zp [(1,3,(Tm 8))]),Oa 5 (.newv 4 27 (.cst Zp)),Oy 4 5 9]) (.seq (.seq (.region [Oa 6 (.mov (Kz 0))]) (lf106_B0)) (.seq (.region [Oq 35 4 true 5,Oy 4 4 35]) (.ret))))⟩
theorem low106 : lowFunc Tryz.prog gl0 106 = some lf106 := Go.Abs.lowF (by kernel_rfl)
end Go.Proofs.YtcfklmjgofknjaaGreat
