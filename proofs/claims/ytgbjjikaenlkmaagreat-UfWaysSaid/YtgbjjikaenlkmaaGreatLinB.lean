/-
  Sums as pure values. No conditions. The lowered code of linear, alike, law8 and the reference's sums, each equal to what the program's form lowers to. No conditions.
-/
import Derived.Test.YtgbjjikaenlkmaaGreatRatG
import Derived.Test.YtgbjjikaenlkmaaGreatRatD
import Derived.Test.YtgbjjikaenlkmaaGreatAbsTwo
import Derived.Test.YtgbjjikaenlkmaaGreatProg
import Derived.Test.YtgbjjikaenlkmaaGreatNatA
import Derived.KernelRfl
set_option linter.unusedSimpArgs false
set_option linter.unnecessarySimpa false
set_option linter.unusedVariables false
set_option linter.constructorNameAsVariable false

/-
 Sums as pure values: what is one, sums, multiples, parts, what one term is, values.
-/
namespace Go.Proofs.YtgbjjikaenlkmaaGreat
open Go Go.Abs Go.Limbs
set_option maxRecDepth 20000
structure Pa where
 c : Fr
 t : Int
structure Po where
 ps : List Pa
 c : Fr
def Pa.wf (x : Pa) : Prop := x.c.wf
def Pa.enc (x : Pa) : PVal := .agg [.bool x.c.s, .lst (x.c.n.map u64), .lst (x.c.d.map u64), .int .i64 x.t]
def wfPs (l : List Pa) : Prop := ∀ x ∈ l, x.wf
def Po.wf (p : Po) : Prop := wfPs p.ps ∧ p.c.wf
def Po.enc (p : Po) : PVal := .agg [.lst (p.ps.map Pa.enc), .bool p.c.s, .lst (p.c.n.map u64), .lst (p.c.d.map u64)]
def decPa : PVal → Option Pa
 | .agg [.bool s, .lst xs, .lst ys, .int .i64 t] => match decU xs, decU ys with | some l, some m => some ⟨⟨s, l, m⟩, t⟩ | _, _ => none
 | _ => none
theorem decPa_enc {x : Pa} (h : x.wf) : decPa x.enc = some x := by simp only [decPa, Pa.enc, decU_map h.1, decU_map h.2]
theorem decPa_some {v : PVal} {x : Pa} (h : decPa v = some x) : v = x.enc ∧ x.wf := by
 unfold decPa at h
 split at h
 ·rename_i s xs ys t
  split at h
  ·rename_i l m hl hm
   cases h
   obtain ⟨rfl, wl⟩ := decU_some hl
   obtain ⟨rfl, wm⟩ := decU_some hm
   exact ⟨rfl, wl, wm⟩
  ·cases h
 ·cases h
def decPs : List PVal → Option (List Pa)
 | [] => some []
 | v :: r => match decPa v, decPs r with | some x, some l => some (x :: l) | _, _ => none
theorem decPs_enc : ∀ {l : List Pa}, wfPs l → decPs (l.map Pa.enc) = some l
 | [], _ => rfl
 | x :: r, h => by simp only [List.map_cons, decPs, decPa_enc (h x (by simp)), decPs_enc (l := r) (fun y hy => h y (by simp [hy]))]
theorem decPs_some : ∀ {vs : List PVal} {l : List Pa}, decPs vs = some l → vs = l.map Pa.enc ∧ wfPs l
 | [], l, h => by cases h; exact ⟨rfl, fun x hx => by cases hx⟩
 | v :: r, l, h => by
  unfold decPs at h
  split at h
  ·rename_i x m hx hm
   cases h
   obtain ⟨rfl, wx⟩ := decPa_some hx
   obtain ⟨rfl, wm⟩ := decPs_some hm
   refine ⟨rfl, fun y hy => ?_⟩
   rcases List.mem_cons.1 hy with rfl | hy
   ·exact wx
   ·exact wm y hy
  ·cases h
def decPo : PVal → Option Po
 | .agg [.lst vs, .bool s, .lst xs, .lst ys] => match decPs vs, decU xs, decU ys with | some ps, some l, some m => some ⟨ps, ⟨s, l, m⟩⟩ | _, _, _ => none
 | _ => none
theorem decPo_enc {p : Po} (h : p.wf) : decPo p.enc = some p := by simp only [decPo, Po.enc, decPs_enc h.1, decU_map h.2.1, decU_map h.2.2]
theorem decPo_some {v : PVal} {p : Po} (h : decPo v = some p) : v = p.enc ∧ p.wf := by
 unfold decPo at h
 split at h
 ·rename_i vs s xs ys
  split at h
  ·rename_i ps l m hp hl hm
   cases h
   obtain ⟨rfl, wp⟩ := decPs_some hp
   obtain ⟨rfl, wl⟩ := decU_some hl
   obtain ⟨rfl, wm⟩ := decU_some hm
   exact ⟨rfl, wp, wl, wm⟩
  ·cases h
 ·cases h
def g1 (g : Po → PVal) : List PVal → Option PVal
 | [a] => match decPo a with | some p => some (g p) | none => none
 | _ => none
def g2 (g : Po → Po → PVal) : List PVal → Option PVal
 | [a, b] => match decPo a, decPo b with | some p, some q => some (g p q) | _, _ => none
 | _ => none
def gk (g : Po → Fr → PVal) : List PVal → Option PVal
 | [a, b] => match decPo a, decF b with | some p, some k => some (g p k) | _, _ => none
 | _ => none
def gi (g : Po → Int → PVal) : List PVal → Option PVal
 | [a, .int .i64 t] => match decPo a with | some p => some (g p t) | _ => none
 | _ => none
theorem g1_at {g : Po → PVal} {p : Po} (h : p.wf) : g1 g [p.enc] = some (g p) := by simp only [g1, decPo_enc h]
theorem g1_some {g : Po → PVal} {args : List PVal} {z : PVal} (h : g1 g args = some z) : ∃ p : Po, p.wf ∧ args = [p.enc] ∧ z = g p := by
 unfold g1 at h
 split at h
 ·split at h
  ·rename_i p hp
   obtain ⟨rfl, w⟩ := decPo_some hp
   cases h
   exact ⟨p, w, rfl, rfl⟩
  ·cases h
 ·cases h
def Po.few (p : Po) : Bool := decide (p.ps.length ≤ 1000000)
def g2s (g : Po → Po → PVal) : List PVal → Option PVal
 | [a, b] => match decPo a, decPo b with | some p, some q => if (p.few && q.few) = true then some (g p q) else none | _, _ => none
 | _ => none
def gks (g : Po → Fr → PVal) : List PVal → Option PVal
 | [a, b] => match decPo a, decF b with | some p, some k => if p.few = true then some (g p k) else none | _, _ => none
 | _ => none
theorem few_le {p : Po} (h : p.few = true) : p.ps.length ≤ 1000000 := of_decide_eq_true h
theorem g2s_at {g : Po → Po → PVal} {p q : Po} (h : p.wf) (h2 : q.wf) (f1 : p.few = true) (f2 : q.few = true) : g2s g [p.enc, q.enc] = some (g p q) := by simp only [g2s, decPo_enc h, decPo_enc h2, f1, f2, Bool.and_self, if_true]
theorem gks_at {g : Po → Fr → PVal} {p : Po} {k : Fr} (h : p.wf) (h2 : k.wf) (f1 : p.few = true) : gks g [p.enc, k.enc] = some (g p k) := by simp only [gks, decPo_enc h, decF_enc h2, f1, if_true]
theorem g2s_some {g : Po → Po → PVal} {args : List PVal} {z : PVal} (h : g2s g args = some z) : ∃ p q : Po, p.wf ∧ q.wf ∧ p.few = true ∧ q.few = true ∧ args = [p.enc, q.enc] ∧ z = g p q := by
 unfold g2s at h
 split at h
 ·split at h
  ·rename_i p q hp hq
   obtain ⟨rfl, w⟩ := decPo_some hp
   obtain ⟨rfl, w2⟩ := decPo_some hq
   split at h
   ·rename_i hf
    rw [Bool.and_eq_true] at hf
    cases h; exact ⟨p, q, w, w2, hf.1, hf.2, rfl, rfl⟩
   ·cases h
  ·cases h
 ·cases h
theorem gks_some {g : Po → Fr → PVal} {args : List PVal} {z : PVal} (h : gks g args = some z) : ∃ (p : Po) (k : Fr), p.wf ∧ k.wf ∧ p.few = true ∧ args = [p.enc, k.enc] ∧ z = g p k := by
 unfold gks at h
 split at h
 ·split at h
  ·rename_i p q hp hq
   obtain ⟨rfl, w⟩ := decPo_some hp
   obtain ⟨rfl, w2⟩ := decF_some hq
   split at h
   ·cases h; exact ⟨p, q, w, w2, by assumption, rfl, rfl⟩
   ·cases h
  ·cases h
 ·cases h
def okParts : Int → List Pa → Bool
 | _, [] => true
 | l, x :: r => decide (l < x.t) && x.c.ok && !decide (x.c.n = []) && okParts x.t r
def Po.ok (p : Po) : Bool := okParts (-1) p.ps && p.c.ok
theorem sign_nil {x : Fr} (h : x.ok = true) : (signF x == 0) = decide (x.n = []) := by
 obtain ⟨q, hq, rfl⟩ := Fr.ok_of h
 rw [signF_num hq]
 have e : ((ofQ q).n = []) ↔ q = 0 := by
  show limbs q.num.natAbs = [] ↔ q = 0
  rw [limbs_eq_nil, Int.natAbs_eq_zero, Rat.num_eq_zero]
 rw [show decide ((ofQ q).n = []) = decide (q = 0) from decide_eq_decide.2 e]
 rw [Bool.eq_iff_iff, beq_iff_eq, decide_eq_true_eq]
 exact cmpQ_zero_iff
def zPo : Po := ⟨[], zF⟩
theorem wf_zPo : zPo.wf := ⟨fun x hx => (by cases hx), wf_zF⟩
def pairPo (r : Po × Nat) : PVal := .tup [r.1.enc, .int .i64 r.2]
def okPo (p : Po) : PVal := .bool p.ok
def mergeF : List Pa → List Pa → Option (List Pa)
 | [], r => some r
 | x :: l, [] => some (x :: l)
 | x :: l, y :: r =>
  if x.t < y.t then (mergeF l (y :: r)).map (x :: ·)
  else if y.t < x.t then (mergeF (x :: l) r).map (y :: ·)
  else if (addF x.c y.c).2 = 0 then
   (mergeF l r).map (fun m => if (addF x.c y.c).1.n = [] then m else ⟨(addF x.c y.c).1, x.t⟩ :: m)
  else none
termination_by l r => l.length + r.length
def withC (c : Fr) : Option (List Pa) → Po × Nat
 | some ps => (⟨ps, c⟩, 0)
 | none => (zPo, 4)
def addPo (p q : Po) : Po × Nat :=
 if p.ok && q.ok then (if (addF p.c q.c).2 = 0 then withC (addF p.c q.c).1 (mergeF p.ps q.ps) else (zPo, 4)) else (zPo, 1)
def scaleF (k : Fr) : List Pa → Option (List Pa)
 | [] => some []
 | x :: l => if (mulF x.c k).2 = 0 then (scaleF k l).map (⟨(mulF x.c k).1, x.t⟩ :: ·) else none
def scalePo (p : Po) (k : Fr) : Po × Nat :=
 if p.ok && k.ok then (if (mulF p.c k).2 = 0 then (if k.n = [] then (⟨[], (mulF p.c k).1⟩, 0) else withC (mulF p.c k).1 (scaleF k p.ps)) else (zPo, 4)) else (zPo, 1)
instance : DecidableEq Fr := fun x y => if h : x.s = y.s ∧ x.n = y.n ∧ x.d = y.d then .isTrue (by cases x; cases y; obtain ⟨a, b, c⟩ := h; simp_all) else .isFalse (fun e => h (by rw [e]; exact ⟨rfl, rfl, rfl⟩))
instance : DecidableEq Pa := fun x y => if h : x.c = y.c ∧ x.t = y.t then .isTrue (by cases x; cases y; obtain ⟨a, b⟩ := h; simp_all) else .isFalse (fun e => h (by rw [e]; exact ⟨rfl, rfl⟩))
instance : DecidableEq Po := fun x y => if h : x.ps = y.ps ∧ x.c = y.c then .isTrue (by cases x; cases y; obtain ⟨a, b⟩ := h; simp_all) else .isFalse (fun e => h (by rw [e]; exact ⟨rfl, rfl⟩))
end Go.Proofs.YtgbjjikaenlkmaaGreat

/-
 The lowered code of the functions, as the program's form has it.
-/
namespace Go.Proofs.YtgbjjikaenlkmaaGreat
open Go Go.Abs
def lf44_B0 : LCode := .block 0 (.loop (.seq (.seq (.region [Om 35 6,Oa 36 (.len (Tm 35)),Oa 37 (.bin .gtr (Tm 36) (Kz 0)),Om 38 37,Oo 39 38 7,Od 40 38 (.len (Tm 39)),Od 41 38 (.bin .gtr (Tm 40) (Kz 0)),Ou 42 38 41]) (.cond (Tm 42) (.skip) (.exit 0))) (.block 1 (.seq (.region [Oa 8 (.newv 4 93 (.cst (.agg [.p (.bool false),.tight [],.tight [],.p (.int .i64 0)])))]) (.seq (.block 2 (.seq (.regionD [Om 70 7,Oa 71 (.len (Tm 70)),Oa 72 (.bin .eql (Tm 71) (Kz 0)),Om 73 72,Oo 74 73 6,Od 75 73 (.len (Tm 74)),Od 76 73 (.bin .gtr (Tm 75) (Kz 0)),Oo 77 73 76,Oj 78 77 6,Oc 79 77 (.iadr 4 (Tm 78) (Kz 0)),Oc 80 77 (.fadr 3 (Tm 79)),Oc 81 77 (.load 1 false (Tm 80)),Oj 82 77 7,Oc 83 77 (.iadr 4 (Tm 82) (Kz 0)),Oc 84 77 (.fadr 3 (Tm 83)),Oc 85 77 (.load 1 false (Tm 84)),Oc 86 77 (.bin .lss (Tm 81) (Tm 85)),Od 87 73 (.pick (Tm 77) (Tm 86) Kg),Ou 88 73 87,Om 69 88]) (.cond (Tm 69) (.regionW [(Om 89 6,.f),(Oa 90 (.iadr 4 (Tm 89) (Kz 0)),.f),(Oz 91 0 90,.f),(Oq 92 3 true 91,.f),(Oa 93 (.call 75 [Tm 92]),.s),(Om 94 6,.f),(Oa 95 (.iadr 4 (Tm 94) (Kz 0)),.s),(Oz 96 3 95,.s),(Oq 97 1 false 96,.s),(Oa 98 (.build (.agg [.p (.bool false),.tight [],.tight [],.p (.int .i64 0)]) [(0,3,(Tm 93)),(3,1,(Tm 97))]),.f),(Om 99 6,.f),(Oa 100 (.slSl 4 (Tm 99) (some (Kz 1)) none none),.s),(Oy 4 8 98,.s),(Om 6 100,.f)]) (.seq (.regionD [Om 102 6,Oa 103 (.len (Tm 102)),Oa 104 (.bin .eql (Tm 103) (Kz 0)),Om 105 104,Oo 106 105 7,Od 107 105 (.iadr 4 (Tm 106) (Kz 0)),Od 108 105 (.fadr 3 (Tm 107)),Od 109 105 (.load 1 false (Tm 108)),Oo 110 105 6,Od 111 105 (.iadr 4 (Tm 110) (Kz 0)),Od 112 105 (.fadr 3 (Tm 111)),Od 113 105 (.load 1 false (Tm 112)),Od 114 105 (.bin .lss (Tm 109) (Tm 113)),Ou 115 105 114,Om 101 115]) (.cond (Tm 101) (.regionW [(Om 116 7,.f),(Oa 117 (.iadr 4 (Tm 116) (Kz 0)),.f),(Oz 118 0 117,.f),(Oq 119 3 true 118,.f),(Oa 120 (.call 75 [Tm 119]),.s),(Om 121 7,.f),(Oa 122 (.iadr 4 (Tm 121) (Kz 0)),.s),(Oz 123 3 122,.s),(Oq 124 1 false 123,.s),(Oa 125 (.build (.agg [.p (.bool false),.tight [],.tight [],.p (.int .i64 0)])
 [(0,3,(Tm 120)),(3,1,(Tm 124))]),.f),(Om 126 7,.f),(Oa 127 (.slSl 4 (Tm 126) (some (Kz 1)) none none),.s),(Oy 4 8 125,.s),(Om 7 127,.f)]) (.seq (.region [Om 43 6,Oa 44 (.iadr 4 (Tm 43) (Kz 0)),Oz 45 3 44,Oq 46 1 false 45,Oz 47 3 8,Oy 1 47 46]) (.seq (.seq (.regionW [(Om 49 6,.f),(Oa 50 (.iadr 4 (Tm 49) (Kz 0)),.f),(Oz 51 0 50,.f),(Oq 52 3 true 51,.f),(Om 53 7,.f),(Oa 54 (.iadr 4 (Tm 53) (Kz 0)),.f),(Oz 55 0 54,.f),(Oq 56 3 true 55,.f),(Oa 57 (.call 74 [Tm 52,Tm 56]),.f),(Om 48 57,.f),(Ox 58 48 0,.f),(Ox 59 48 1,.f),(Oz 60 0 8,.f),(Oy 3 60 58,.f),(Om 5 59,.f)]) (.seq (.region [Om 61 5,Oa 62 (.bin .neq (Tm 61) (Kz 0))]) (.cond (Tm 62) (.seq (.region [Oa 63 (.build Zp []),Om 64 5,Oy 4 4 63,Om 5 64]) (.ret)) (.skip)))) (.regionD [Om 65 6,Oa 66 (.slSl 4 (Tm 65) (some (Kz 1)) none none),Om 67 7,Oa 68 (.slSl 4 (Tm 67) (some (Kz 1)) none none),Om 6 66,Om 7 68])))))))) (.seq (.region [Oz 128 0 8,Oq 129 3 true 128,Oa 130 (.call 71 [Tm 129]),Oa 131 (.bin .neq (Tm 130) (Kz 0))]) (.cond (Tm 131) (.region [Oz 132 0 4,Oq 133 1 false 132,Oq 134 4 true 8,Oa 135 (.buildSl 4 93 (.agg [.p (.bool false),.tight [],.tight [],.p (.int .i64 0)]) 1 [(0,(Tm 134))]),Oa 136 (.app 4 64 93 (Tm 133) (Tm 135)),Oz 137 0 4,Oy 1 137 136]) (.skip))))))))
def lf44 : LFunc := ⟨139,[.cell 4 4 true,.slot 5],.seq (.region [Oa 2 (.newv 4 76 (Tm 0)),Oa 3 (.newv 4 76 (Tm 1)),Oa 4 (.newv 4 76 (.cst Zp)),Oa 5 (.mov (Kz 0))]) (.seq (.seq (.region [Oq 9 4 true 2,Oa 10 (.call 68 [Tm 9]),Oa 11 (.un .not (Tm 10)),Om 12 11,Od 13 12 (.load 4 true (Tm 3)),Od 14 12 (.call 68 [Tm 13]),Od 15 12 (.un .not (Tm 14)),Ou 16 12 15]) (.cond (Tm 16) (.seq (.region [Oq 17 4 true 4,Oy 4 4 17,Oa 5 (.mov (Kz 1))]) (.ret)) (.skip))) (.seq (.seq (.region [Oz 19 1 2,Oq 20 3 true 19,Oz 21 1 3,Oq 22 3 true 21,Oa 23 (.call 74 [Tm 20,Tm 22]),Om 18 23,Ox 24 18 0,Ox 25 18 1,Oz 26 1 4,Oy 3 26 24,Om 5 25]) (.seq (.region [Om 27 5,Oa 28 (.bin .neq (Tm 27) (Kz 0))]) (.cond (Tm 28) (.seq (.region [Oa 29 (.build Zp []),Om 30 5,Oy 4 4 29,Om 5 30]) (.ret)) (.skip)))) (.seq (.regionD [Oz 31 0 2,Oq 32 1 false 31,Oz 33 0 3,Oq 34 1 false 33,Om 6 32,Om 7 34]) (.seq (lf44_B0) (.seq (.region [Oq 138 4 true 4,Oy 4 4 138,Oa 5 (.mov (Kz 0))]) (.ret))))))⟩
theorem low44 : lowFunc Tryz.prog gl0 44 = some lf44 := Go.Abs.lowF (by kernel_rfl)
def lf41_B0 : LCode := .block 0 (.loop (.seq (.region [Oa 37 (.bin .lss (Tm 36) (Tm 35))]) (.seq (.cond (Tm 37) (.skip) (.exit 0)) (.seq (.block 1 (.seq (.region [Oa 38 (.iadr 4 (Tm 34) (Tm 36)),Oq 39 4 true 38,Oa 7 (.newv 4 93 (.cst (.agg [.p (.bool false),.tight [],.tight [],.p (.int .i64 0)]))),Oy 4 7 39]) (.seq (.seq (.region [Oz 41 0 7,Oq 42 3 true 41,Oq 43 3 true 3,Oa 44 (.call 70 [Tm 42,Tm 43]),Om 40 44,Ox 45 40 0,Ox 46 40 1,Oz 47 0 7,Oy 3 47 45,Om 5 46]) (.seq (.region [Om 48 5,Oa 49 (.bin .neq (Tm 48) (Kz 0))]) (.cond (Tm 49) (.seq (.region [Oa 50 (.build Zp []),Om 51 5,Oy 4 4 50,Om 5 51]) (.ret)) (.skip)))) (.region [Oz 52 0 4,Oq 53 1 false 52,Oq 54 4 true 7,Oa 55 (.buildSl 4 93 (.agg [.p (.bool false),.tight [],.tight [],.p (.int .i64 0)]) 1 [(0,(Tm 54))]),Oa 56 (.app 4 64 93 (Tm 53) (Tm 55)),Oz 57 0 4,Oy 1 57 56])))) (.region [Oa 58 (.bin .add (Tm 36) (Kz 1)),Om 36 58])))))
def lf41 : LFunc := ⟨60,[.cell 4 4 true,.slot 5],.seq (.region [Oa 2 (.newv 4 76 (Tm 0)),Oa 3 (.newv 3 33 (Tm 1)),Oa 4 (.newv 4 76 (.cst Zp)),Oa 5 (.mov (Kz 0))]) (.seq (.seq (.region [Oq 8 4 true 2,Oa 9 (.call 68 [Tm 8]),Oa 10 (.un .not (Tm 9)),Om 11 10,Od 12 11 (.load 3 true (Tm 3)),Od 13 11 (.call 69 [Tm 12]),Od 14 11 (.un .not (Tm 13)),Ou 15 11 14]) (.cond (Tm 15) (.seq (.region [Oq 16 4 true 4,Oy 4 4 16,Oa 5 (.mov (Kz 1))]) (.ret)) (.skip))) (.seq (.seq (.region [Oz 18 1 2,Oq 19 3 true 18,Oq 20 3 true 3,Oa 21 (.call 70 [Tm 19,Tm 20]),Om 17 21,Ox 22 17 0,Ox 23 17 1,Oz 24 1 4,Oy 3 24 22,Om 5 23]) (.seq (.region [Om 25 5,Oa 26 (.bin .neq (Tm 25) (Kz 0))]) (.cond (Tm 26) (.seq (.region [Oa 27 (.build Zp []),Om 28 5,Oy 4 4 27,Om 5 28]) (.ret)) (.skip)))) (.seq (.seq (.region [Oq 29 3 true 3,Oa 30 (.call 71 [Tm 29]),Oa 31 (.bin .eql (Tm 30) (Kz 0))]) (.cond (Tm 31) (.seq (.region [Oq 32 4 true 4,Oy 4 4 32,Oa 5 (.mov (Kz 0))]) (.ret)) (.skip))) (.seq (.seq (.region [Oz 33 0 2,Oq 34 1 false 33,Oa 35 (.len (Tm 34)),Oa 36 (.mov (Kz 0))]) (lf41_B0)) (.seq (.region [Oq 59 4 true 4,Oy 4 4 59,Oa 5 (.mov (Kz 0))]) (.ret))))))⟩
theorem low41 : lowFunc Tryz.prog gl0 41 = some lf41 := Go.Abs.lowF (by kernel_rfl)
def lf68_B0 : LCode := .block 0 (.loop (.seq (.region [Oa 9 (.bin .lss (Tm 8) (Tm 7))]) (.seq (.cond (Tm 9) (.skip) (.exit 0)) (.seq (.block 1 (.seq (.region [Om 10 8,Oa 11 (.iadr 4 (Tm 6) (Tm 8)),Oq 12 4 true 11,Oa 4 (.newv 4 93 (.cst (.agg [.p (.bool false),.tight [],.tight [],.p (.int .i64 0)]))),Om 3 10,Oy 4 4 12]) (.seq (.regionD [Oz 13 3 4,Oq 14 1 false 13,Oa 15 (.bin .lss (Tm 14) (Kz 0)),Om 16 15,Oo 17 16 3,Od 18 16 (.bin .gtr (Tm 17) (Kz 0)),Oo 19 16 18,Oc 20 19 (.fadr 3 (Tm 4)),Oc 21 19 (.load 1 false (Tm 20)),Oc 22 19 (.fadr 0 (Tm 1)),Oc 23 19 (.load 1 false (Tm 22)),Oj 24 19 3,Oc 25 19 (.bin .sub (Tm 24) (Kz 1)),Oc 26 19 (.iadr 4 (Tm 23) (Tm 25)),Oc 27 19 (.fadr 3 (Tm 26)),Oc 28 19 (.load 1 false (Tm 27)),Oc 29 19 (.bin .leq (Tm 21) (Tm 28)),Od 30 16 (.pick (Tm 19) (Tm 29) Kg),Ou 31 16 30,Om 32 31,Od 33 32 (.fadr 0 (Tm 4)),Od 34 32 (.load 3 true (Tm 33)),Od 35 32 (.call 69 [Tm 34]),Od 36 32 (.un .not (Tm 35)),Ou 37 32 36,Om 38 37,Od 39 38 (.fadr 0 (Tm 4)),Od 40 38 (.load 3 true (Tm 39)),Od 41 38 (.call 71 [Tm 40]),Od 42 38 (.bin .eql (Tm 41) (Kz 0)),Ou 43 38 42]) (.cond (Tm 43) (.seq (.region [Oa 2 (.mov Kg)]) (.ret)) (.skip))))) (.region [Oa 44 (.bin .add (Tm 8) (Kz 1)),Om 8 44])))))
def lf68 : LFunc := ⟨48,[.slot 2],.seq (.region [Oa 1 (.newv 4 76 (Tm 0)),Oa 2 (.mov Kg)]) (.seq (.seq (.region [Oz 5 0 1,Oq 6 1 false 5,Oa 7 (.len (Tm 6)),Oa 8 (.mov (Kz 0))]) (lf68_B0)) (.seq (.region [Oz 45 1 1,Oq 46 3 true 45,Oa 47 (.call 69 [Tm 46]),Om 2 47]) (.ret)))⟩
theorem low68 : lowFunc Tryz.prog gl0 68 = some lf68 := Go.Abs.lowF (by kernel_rfl)
def lf77_B0 : LCode := .block 0 (.loop (.seq (.region [Oa 13 (.bin .lss (Tm 12) (Tm 11))]) (.seq (.cond (Tm 13) (.skip) (.exit 0)) (.seq (.block 1 (.seq (.region [Oa 14 (.iadr 4 (Tm 10) (Tm 12)),Oq 15 4 true 14,Oa 4 (.newv 4 93 (.cst (.agg [.p (.bool false),.tight [],.tight [],.p (.int .i64 0)]))),Oy 4 4 15]) (.regionW [(Oz 16 0 2,.s),(Oq 17 1 false 16,.s),(Oz 18 0 4,.f),(Oq 19 3 true 18,.f),(Oa 20 (.call 75 [Tm 19]),.s),(Oz 21 3 4,.s),(Oq 22 1 false 21,.s),(Oa 23 (.build (.agg [.p (.bool false),.tight [],.tight [],.p (.int .i64 0)]) [(0,3,(Tm 20)),(3,1,(Tm 22))]),.f),(Oa 24 (.buildSl 4 93 (.agg [.p (.bool false),.tight [],.tight [],.p (.int .i64 0)]) 1 [(0,(Tm 23))]),.s),(Oa 25 (.app 4 64 93 (Tm 17) (Tm 24)),.f),(Oz 26 0 2,.f),(Oy 1 26 25,.f)]))) (.region [Oa 27 (.bin .add (Tm 12) (Kz 1)),Om 12 27])))))
def lf77 : LFunc := ⟨29,[.cell 2 4 true],.seq (.region [Oa 1 (.newv 4 76 (Tm 0)),Oa 2 (.newv 4 76 (.cst Zp))]) (.seq (.region [Oz 5 1 1,Oq 6 3 true 5,Oa 7 (.call 75 [Tm 6]),Oz 8 1 2,Oy 3 8 7]) (.seq (.seq (.region [Oz 9 0 1,Oq 10 1 false 9,Oa 11 (.len (Tm 10)),Oa 12 (.mov (Kz 0))]) (lf77_B0)) (.seq (.region [Oq 28 4 true 2,Oy 4 2 28]) (.ret))))⟩
theorem low77 : lowFunc Tryz.prog gl0 77 = some lf77 := Go.Abs.lowF (by kernel_rfl)
def lf75 : LFunc := ⟨12,[.cell 2 3 true],.seq (.region [Oa 1 (.newv 3 33 (Tm 0)),Oa 2 (.newv 3 33 (.cst Zr))]) (.seq (.regionW [(Oz 3 0 1,.s),(Oq 4 1 false 3,.s),(Oz 5 1 1,.f),(Oq 6 1 false 5,.f),(Oa 7 (.call 117 [Tm 6]),.s),(Oz 8 2 1,.s),(Oq 9 1 false 8,.s),(Oa 10 (.call 117 [Tm 9]),.s),(Oa 11 (.build Zr [(0,1,(Tm 4)),(1,1,(Tm 7)),(2,1,(Tm 10))]),.f),(Oy 3 2 11,.f)]) (.ret))⟩
theorem low75 : lowFunc Tryz.prog gl0 75 = some lf75 := Go.Abs.lowF (by kernel_rfl)
def lf81 : LFunc := ⟨24,[.slot 4],.seq (.region [Oa 2 (.newv 3 33 (Tm 0)),Oa 3 (.newv 3 33 (Tm 1)),Oa 4 (.mov Kg)]) (.seq (.region [Oz 5 0 2,Oq 6 1 false 5,Oz 7 0 3,Oq 8 1 false 7,Oa 9 (.eqB false (Tm 6) (Tm 8)),Om 10 9,Oc 11 10 (.fadr 1 (Tm 2)),Oc 12 10 (.load 1 false (Tm 11)),Oc 13 10 (.fadr 1 (Tm 3)),Oc 14 10 (.load 1 false (Tm 13)),Oc 15 10 (.call 119 [Tm 12,Tm 14]),Ot 16 10 15,Om 17 16,Oc 18 17 (.fadr 2 (Tm 2)),Oc 19 17 (.load 1 false (Tm 18)),Oc 20 17 (.fadr 2 (Tm 3)),Oc 21 17 (.load 1 false (Tm 20)),Oc 22 17 (.call 119 [Tm 19,Tm 21]),Ot 23 17 22,Om 4 23]) (.ret))⟩
theorem low81 : lowFunc Tryz.prog gl0 81 = some lf81 := Go.Abs.lowF (by kernel_rfl)
def lf119_B0 : LCode := .block 0 (.loop (.seq (.region [Oa 14 (.bin .lss (Tm 13) (Tm 12))]) (.seq (.cond (Tm 14) (.skip) (.exit 0)) (.seq (.block 1 (.seq (.region [Om 15 13,Om 5 15]) (.seq (.regionD [Om 16 0,Om 17 5,Oa 18 (.iadr 1 (Tm 16) (Tm 17)),Oq 19 1 false 18,Om 20 1,Om 21 5,Oa 22 (.iadr 1 (Tm 20) (Tm 21)),Oq 23 1 false 22,Oa 24 (.bin .neq (Tm 19) (Tm 23))]) (.cond (Tm 24) (.seq (.region [Oa 4 (.mov Kg)]) (.ret)) (.skip))))) (.region [Oa 25 (.bin .add (Tm 13) (Kz 1)),Om 13 25])))))
def lf119 : LFunc := ⟨26,[.slot 4],.seq (.region [Oa 4 (.mov Kg)]) (.seq (.seq (.region [Om 6 0,Oa 7 (.len (Tm 6)),Om 8 1,Oa 9 (.len (Tm 8)),Oa 10 (.bin .neq (Tm 7) (Tm 9))]) (.cond (Tm 10) (.seq (.region [Oa 4 (.mov Kg)]) (.ret)) (.skip))) (.seq (.seq (.region [Om 11 0,Oa 12 (.len (Tm 11)),Oa 13 (.mov (Kz 0))]) (lf119_B0)) (.seq (.region [Oa 4 (.mov Kt)]) (.ret))))⟩
theorem low119 : lowFunc Tryz.prog gl0 119 = some lf119 := Go.Abs.lowF (by kernel_rfl)
end Go.Proofs.YtgbjjikaenlkmaaGreat

/-
 The lowered code of the functions, as the program's form has it.
-/
namespace Go.Proofs.YtgbjjikaenlkmaaGreat
open Go Go.Abs
end Go.Proofs.YtgbjjikaenlkmaaGreat
