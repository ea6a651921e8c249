/-
  What atom.Make and the reference's ValidAtom compute, for sums of at most a million parts. What the reference's MakeAtom, and both sides' opposites, trivial atoms and what holds compute. The lowered code of uf, model, law24 and what they call, each equal to what the program's form lowers to. A range backward over a slice; constants, names, variables, rows and tables as pure values. No conditions beyond the lemmas' own hypotheses.
-/
import Derived.Test.YtgbjjikaenlkmaaGreatNatH
import Derived.Test.YtgbjjikaenlkmaaGreatAbsTwo
import Derived.Test.YtgbjjikaenlkmaaGreatProg
import Derived.Test.YtgbjjikaenlkmaaGreatNatA
import Derived.KernelRfl
import Derived.Test.YtgbjjikaenlkmaaGreatAbsThree
import Derived.RangeFuncBox
import Derived.Shelf.Abstract
import Derived.WalkKit
import Derived.OwnWalkIn
import Derived.TacticsInMore
import Derived.LoopNIn
import Derived.LoopIn
set_option linter.unusedSimpArgs false
set_option linter.unnecessarySimpa false
set_option linter.unusedVariables false
set_option linter.constructorNameAsVariable false

namespace Go.Proofs.YtgbjjikaenlkmaaGreat
open Go Go.Abs Go.Limbs
variable {base : Prot}
set_option maxRecDepth 20000
attribute [local irreducible] vc
attribute [local simp] za zh freezeL fuel zk u64 au
def k3 (k : Int) : Int := if k = 4 then 3 else k
def rC (k : Int) (p : Po) : At × Bool × Nat :=
 if rK (k3 k) && p.ok then
  match p.ps with
  | [] => (⟨k3 k, ⟨[], ofQ (Rat.divInt (z9 p.c) 1)⟩, 0, 0⟩, decide (k = 4), 0)
  | _ :: _ => if (cj (ofQ 1) (jW (k3 k) p)).2 = 0 then
    (if (jS p (cj (ofQ 1) (jW (k3 k) p)).1).2 = 0 then (⟨k3 k, (jS p (cj (ofQ 1) (jW (k3 k) p)).1).1, 0, 0⟩, decide (k = 4), 0)
     else (zAt, false, (jS p (cj (ofQ 1) (jW (k3 k) p)).1).2))
    else (zAt, false, (cj (ofQ 1) (jW (k3 k) p)).2)
 else (zAt, false, 1)
def tripAt (r : At × Bool × Nat) : PVal := .tup [r.1.enc, .bool r.2.1, .int .i64 r.2.2]
def ki (g : Int → Po → PVal) : List PVal → Option PVal
 | [.int .i64 k, a] => match ua a with | some p => if p.few = true then some (g k p) else none | none => none
 | _ => none
theorem ki_at {g : Int → Po → PVal} {k : Int} {p : Po} (h : p.wf) (f : p.few = true) : ki g [.int .i64 k, p.enc] = some (g k p) := by simp only [ki, jO h, f, if_true]
theorem ki_some {g : Int → Po → PVal} {args : List PVal} {z : PVal} (h : ki g args = some z) : ∃ (k : Int) (p : Po), p.wf ∧ p.few = true ∧ args = [.int .i64 k, p.enc] ∧ z = g k p := by
 unfold ki at h
 split at h
 ·split at h
  ·rename_i p hp
   obtain ⟨rfl, w⟩ := vV hp
   split at h
   ·cases h; exact ⟨_, p, w, by assumption, rfl, rfl⟩
   ·cases h
  ·cases h
 ·cases h
def eu (k : Int) (p : Po) : PVal := tripAt (rC k p)
theorem wf_makeAt {k : Int} {p : Po} : (rC k p).1.p.wf := by
 unfold rC
 split
 ·split
  ·exact ⟨fun x hx => (by cases hx), kF _⟩
  ·split
   ·split
    ·exact pk _ _
    ·exact j8
   ·exact j8
 ·exact j8
theorem ia (x : Fr) : (-1000 ≤ z9 x ∧ z9 x ≤ 1000) ∧ (-1000 ≤ (1 : Int) ∧ (1 : Int) ≤ 1000) := by
 unfold z9
 split
 ·rcases cmpQ_case x.q 0 with h | h | h <;> rw [h] <;> decide
 ·decide
theorem fX {x : Fr} (h : x.ok = true) : z9 (hZ x) = - z9 x := by
 obtain ⟨q, hq, rfl⟩ := Fr.ok_of h
 rw [o9 hq, uL (Sm_neg hq), uL hq]
 rcases xA q 0 with h | h | h
 ·rw [nX h, nY (by grind)]; rfl
 ·subst h; rfl
 ·rw [nY h, nX (by grind)]
theorem of_sign0 {x : Fr} (h : x.ok = true) (h0 : z9 x = 0) : x = ofQ (Rat.divInt (z9 x) 1) := by
 obtain ⟨q, hq, rfl⟩ := Fr.ok_of h
 rw [uL hq] at h0 ⊢
 rw [h0]
 have := cC.1 h0
 subst this
 rfl
theorem dY : ∀ {l : List Pa} {k : Int}, wD k l = true → ∀ x ∈ l, x.c.n ≠ []
 | y :: r, k, h, x, hx => by
  unfold wD at h
  rw [Bool.and_eq_true, Bool.and_eq_true, Bool.and_eq_true] at h
  rcases List.mem_cons.1 hx with rfl | hx
  ·simpa using h.1.2
  ·exact dY h.2 x hx
theorem oY {p : Po} (h : p.ok = true) {x : Pa} (hx : x ∈ p.ps) : x.c.n ≠ [] := by
 unfold Po.ok at h
 rw [Bool.and_eq_true] at h
 exact dY h.1 x hx
theorem size_sign {k : Int} {p : Po} (h : p.ok = true) : (z9 (jW k p) == 0) = (match p.ps with | [] => z9 p.c == 0 | _ => false) := by
 unfold jW
 cases hp : p.ps with
 | nil =>
  simp only
  split
  ·rw [fX (uP h), Bool.eq_iff_iff, beq_iff_eq, beq_iff_eq]; omega
  ·rfl
 | cons x r =>
  have hx : x ∈ p.ps := by rw [hp]; simp
  have ho := dX h hx
  have hn := oY h hx
  simp only
  split
  ·rw [fX ho, Bool.eq_false_iff, ne_eq, beq_iff_eq]
   intro h0
   have := jk ho
   rw [show (z9 x.c == 0) = true from by rw [beq_iff_eq]; omega] at this
   exact hn (of_decide_eq_true this.symm)
  ·rw [jk ho]
   exact decide_eq_false hn
def Tmk : Tab := (((((((Tab.none.with 76 (za sSum)).with 68 (za (g1 rn))).with 77 (za (g1v Po.enc))).with 78 (za cJ)).with 71 (za (f1 vH))).with 43 (za cN)).with 79 (za (f2 sK))).with 41 (za (gks y9))
theorem Tmk_ok : TabOk Tryz.prog base Tmk := Tab.with_ok (Tab.with_ok (Tab.with_ok (Tab.with_ok (Tab.with_ok (Tab.with_ok (Tab.with_ok (Tab.with_ok Tab.none_ok asum_ok) tJ) lcopy_ok) asize_ok) dV) iG) qquo_ok) oe
theorem wi (f : FuncId) (a : List AVal) (H : zb) : Tmk.mu f a H = none := (rfl)
theorem qy : Tmk.fn 76 = (za sSum) ∧ Tmk.fn 68 = (za (g1 rn)) ∧ Tmk.fn 77 = (za (g1v Po.enc)) ∧ Tmk.fn 78 = (za cJ) ∧ Tmk.fn 71 = (za (f1 vH)) ∧ Tmk.fn 43 = (za cN) ∧ Tmk.fn 79 = (za (f2 sK)) ∧ Tmk.fn 41 = (za (gks y9)) := ⟨rfl, rfl, rfl, rfl, rfl, rfl, rfl, rfl⟩
theorem amake_ok : zH Tryz.prog base 45 (za (ki eu)) := by
 refine zd zE Tmk_ok ze low45 fun args z hs hf => ?_
 obtain ⟨k, p, wp, fp, rfl, rfl⟩ := ki_some hs
 refine ⟨by simp [lf45], ?_⟩
 have ek : (k == 4) = decide (k = 4) := rfl
 obtain ⟨kk, hkk⟩ : ∃ kk, kk = k3 k := ⟨_, rfl⟩
 have v1 := sSum_at kk
 have v2 : g1 rn [p.enc] = some (.bool p.ok) := g1_at wp
 have v4 : cJ [.int .i64 kk, p.enc] = some (jW kk p).enc := sSize9_at wp
 have v5 : f1 vH [(jW kk p).enc] = some (.int .i64 (z9 (jW kk p))) := kZ (fL wp)
 have v6 : f1 vH [p.c.enc] = some (.int .i64 (z9 p.c)) := kZ wp.2
 have o1 := ofR (n := 1) (d := 1) (by decide)
 rw [p1_eq] at o1
 have os := ofR (ia p.c)
 unfold eu tripAt rC
 rw [← hkk]
 have hk : (k = 4 ∧ kk = 3 ∧ decide (k = 4) = true) ∨ (¬ k = 4 ∧ kk = k ∧ decide (k = 4) = false) := by
  unfold k3 at hkk
  by_cases h : k = 4
  ·rw [if_pos h] at hkk; exact .inl ⟨h, hkk, decide_eq_true h⟩
  ·rw [if_neg h] at hkk; exact .inr ⟨h, hkk, decide_eq_false h⟩
 cases hsum : rK kk with
 | false =>
  rw [hsum] at v1
  simp only [zAt, zPo, zF, At.enc, Po.enc] at v1 ⊢
  rcases hk with ⟨rfl, rfl, hd⟩ | ⟨h4, rfl, hd⟩
  ·simp [lf45, v1, wi, qy]
  ·simp [lf45, v1, ek, h4, wi, qy]
 | true =>
 rw [hsum] at v1
 cases hok : p.ok with
 | false =>
  rw [hok] at v2
  simp only [zAt, zPo, zF, At.enc, Po.enc] at v1 v2 ⊢
  rcases hk with ⟨rfl, rfl, hd⟩ | ⟨h4, rfl, hd⟩
  ·simp [lf45, v1, v2, wi, qy]
  ·simp [lf45, v1, v2, ek, h4, wi, qy]
 | true =>
 rw [hok] at v2
 have v3 : g1v Po.enc [p.enc] = some p.enc := g1v_at wp fp hok
 have hsg := size_sign (k := kk) hok
 obtain ⟨sz, hsz⟩ : ∃ s, s = jW kk p := ⟨_, rfl⟩
 have wsz : sz.wf := by rw [hsz]; exact fL wp
 rw [← hsz] at v4 v5 hsg ⊢
 cases hps : p.ps with
 | nil =>
  rw [hps] at hsg
  simp only at hsg
  simp only [Bool.and_self, if_true]
  by_cases h0 : z9 p.c = 0
  ·have hc := of_sign0 (uP hok) h0
   rw [show (z9 p.c == 0) = true from by rw [h0]; rfl] at hsg
   rw [← hc]
   simp only [At.enc, Po.enc, Fr.enc, hps, List.map_nil] at v1 v2 v3 v4 v5 ⊢
   rcases hk with ⟨rfl, rfl, hd⟩ | ⟨h4, rfl, hd⟩
   ·simp [lf45, v1, v2, v3, v4, v5, hsg, wi, qy]
   ·simp [lf45, v1, v2, v3, v4, v5, hsg, ek, h4, wi, qy]
  ·rw [show (z9 p.c == 0) = false from by simpa using h0] at hsg
   obtain ⟨y, hy⟩ : ∃ y, y = ofQ (Rat.divInt (z9 p.c) 1) := ⟨_, rfl⟩
   rw [← hy] at os ⊢
   simp only [At.enc, Po.enc, Fr.enc, hps, List.map_nil] at v1 v2 v3 v4 v5 v6 os ⊢
   rcases hk with ⟨rfl, rfl, hd⟩ | ⟨h4, rfl, hd⟩
   ·simp [lf45, v1, v2, v3, v4, v5, v6, os, hsg, wi, qy]
   ·simp [lf45, v1, v2, v3, v4, v5, v6, os, hsg, ek, h4, wi, qy]
 | cons x r =>
  rw [hps] at hsg
  simp only at hsg
  have hl0 : ((r.length : Int) + 1 == 0) = false := by simp; omega
  have v7 := quoP_at (x := ofQ 1) (kF 1) wsz
  obtain ⟨q, hq⟩ : ∃ q, q = cj (ofQ 1) sz := ⟨_, rfl⟩
  have wq : q.1.wf := by rw [hq]; exact wf_quoF _ _
  rw [← hq] at v7 ⊢
  have v8 : gks y9 [p.enc, q.1.enc] = some (gW (jS p q.1)) := gks_at wp wq fp
  obtain ⟨s, hs'⟩ : ∃ s, s = jS p q.1 := ⟨_, rfl⟩
  rw [← hs'] at v8 ⊢
  obtain ⟨x1, hx1⟩ : ∃ x, x = ofQ 1 := ⟨_, rfl⟩
  rw [← hx1] at o1 v7
  unfold gW at v8
  simp only [Bool.and_self, if_true]
  by_cases e1 : q.2 = 0
  ·have e1b : ((q.2 : Int) == 0) = true := by rw [e1]; rfl
   by_cases e2 : s.2 = 0
   ·rw [if_pos e1, if_pos e2]
    rw [e1] at v7
    rw [e2] at v8
    simp only [At.enc, Po.enc, Fr.enc, hps, List.map_cons] at v1 v2 v3 v4 v5 v7 v8 o1 ⊢
    rcases hk with ⟨rfl, rfl, hd⟩ | ⟨h4, rfl, hd⟩
    ·simp [lf45, v1, v2, v3, v4, v5, hsg, hl0, wi, qy]
     rw [zw]
     refine ⟨[], ?_⟩
     simp [o1, v7, v8, wi, qy]
    ·simp [lf45, v1, v2, v3, v4, v5, hsg, hl0, ek, h4, wi, qy]
     rw [zw]
     refine ⟨[], ?_⟩
     simp [o1, v7, v8, wi, qy]
   ·rw [if_pos e1, if_neg e2]
    have e2b : ((s.2 : Int) != 0) = true := by simp; omega
    rw [e1] at v7
    simp only [zAt, zPo, zF, At.enc, Po.enc, Fr.enc, hps, List.map_cons, List.map_nil] at v1 v2 v3 v4 v5 v7 v8 o1 ⊢
    rcases hk with ⟨rfl, rfl, hd⟩ | ⟨h4, rfl, hd⟩
    ·simp [lf45, v1, v2, v3, v4, v5, hsg, hl0, wi, qy]
     rw [zw]
     refine ⟨[], ?_⟩
     simp [o1, v7, v8, e2b, wi, qy]
    ·simp [lf45, v1, v2, v3, v4, v5, hsg, hl0, ek, h4, wi, qy]
     rw [zw]
     refine ⟨[], ?_⟩
     simp [o1, v7, v8, e2b, wi, qy]
  ·rw [if_neg e1]
   have e1b : ((q.2 : Int) == 0) = false := by simp; omega
   have e1c : ((q.2 : Int) != 0) = true := by simp; omega
   simp only [zAt, zPo, zF, At.enc, Po.enc, Fr.enc, hps, List.map_cons, List.map_nil] at v1 v2 v3 v4 v5 v7 o1 ⊢
   rcases hk with ⟨rfl, rfl, hd⟩ | ⟨h4, rfl, hd⟩
   ·simp [lf45, v1, v2, v3, v4, v5, hsg, hl0, wi, qy]
    rw [zw]
    refine ⟨[], ?_⟩
    simp [o1, v7, e1b, e1c, wi, qy]
   ·simp [lf45, v1, v2, v3, v4, v5, hsg, hl0, ek, h4, wi, qy]
    rw [zw]
    refine ⟨[], ?_⟩
    simp [o1, v7, e1b, e1c, wi, qy]
def triv (x : At) : Bool × Bool := if x.ok && rK x.k && decide (x.p.ps = []) then (soF x.k (z9 x.p.c), true) else (false, false)
end Go.Proofs.YtgbjjikaenlkmaaGreat

namespace Go.Proofs.YtgbjjikaenlkmaaGreat
open Go Go.Abs
def lf9_B0 : LCode := .block 0 (.loop (.seq (.region [Oa 64 (.bin .lss (Tm 63) (Tm 62))]) (.seq (.cond (Tm 64) (.skip) (.exit 0)) (.seq (.block 1 (.seq (.region [Om 65 63,Oa 66 (.iadr 1 (Tm 61) (Tm 63)),Oq 67 1 false 66,Om 12 65,Om 13 67]) (.seq (.region [Om 69 9,Om 70 13,Oa 71 (.mget true (.p (.int .i64 0)) (Tm 69) (Tm 70)),Om 68 71,Ox 72 68 0,Ox 73 68 1,Om 14 72,Om 15 73]) (.seq (.region [Om 75 9,Om 76 11,Om 77 12,Oa 78 (.iadr 1 (Tm 76) (Tm 77)),Oq 79 1 false 78,Oa 80 (.mget true (.p (.int .i64 0)) (Tm 75) (Tm 79)),Om 74 80,Ox 81 74 0,Ox 82 74 1,Om 16 81,Om 17 82]) (.seq (.region [Om 83 15,Oa 84 (.un .not (Tm 83)),Om 85 84,Oo 86 85 17,Od 87 85 (.un .not (Tm 86)),Ou 88 85 87,Om 89 88,Oo 90 89 14,Oo 91 89 16,Od 92 89 (.bin .neq (Tm 90) (Tm 91)),Ou 93 89 92,Om 94 93,Oo 95 94 14,Oo 96 94 13,Oo 97 94 11,Oo 98 94 12,Od 99 94 (.iadr 1 (Tm 97) (Tm 98)),Od 100 94 (.load 1 false (Tm 99)),Od 101 94 (.minmax3 false (Tm 95) (Tm 96) (Tm 100)),Od 102 94 (.bin .lss (Tm 101) (Kz 0)),Ou 103 94 102]) (.cond (Tm 103) (.seq (.region [Oa 6 (.mov (.cst (.tight []))),Oa 7 (.mov (.cst (.tight []))),Oa 8 (.mov (Kz 1))]) (.ret)) (.skip))))))) (.region [Oa 104 (.bin .add (Tm 63) (Kz 1)),Om 63 104])))))
def lf9_B1 : LCode := .block 2 (.loop (.seq (.region [Oa 109 (.bin .lss (Tm 108) (Tm 107))]) (.seq (.cond (Tm 109) (.skip) (.exit 2)) (.seq (.block 3 (.seq (.region [Om 110 108,Oa 111 (.iadr 1 (Tm 106) (Tm 108)),Oq 112 1 false 111,Om 19 110,Om 20 112]) (.seq (.seq (.region [Om 113 20,Oz 114 2 5,Oq 115 1 false 114,Om 116 19,Oa 117 (.iadr 1 (Tm 115) (Tm 116)),Oq 118 1 false 117,Oa 119 (.bin .eql (Tm 113) (Tm 118))]) (.cond (Tm 119) (.exit 3) (.skip))) (.seq (.regionN 1 [(Om 121 9,.f),(Om 122 20,.f),(Oa 123 (.mget false (.p (.int .i64 0)) (Tm 121) (Tm 122)),.s),(Om 124 20,.f),(Oz 125 2 5,.s),(Oq 126 1 false 125,.s),(Om 127 19,.f),(Oa 128 (.iadr 1 (Tm 126) (Tm 127)),.s),(Oq 129 1 false 128,.s),(Oa 130 (.call 21 [Tm 123,Tm 124,Tm 129]),.c 1),(Om 120 130,.f),(Ox 131 120 0,.f),(Ox 132 120 1,.f),(Oa 21 (.newv 7 78 (.cst Za)),.n 0),(Oy 7 21 131,.f),(Om 22 132,.f)]) (.seq (.seq (.region [Om 133 22,Oa 134 (.bin .neq (Tm 133) (Kz 0))]) (.cond (Tm 134) (.seq (.region [Om 135 22,Oa 6 (.mov (.cst (.tight []))),Oa 7 (.mov (.cst (.tight []))),Om 8 135]) (.ret)) (.skip))) (.region [Om 136 18,Oq 137 7 true 21,Oa 138 (.build Zl [(0,7,(Tm 137)),(7,1,Kt)]),Oa 139 (.buildSl 8 80 Zl 1 [(0,(Tm 138))]),Oa 140 (.app 8 112 80 (Tm 136) (Tm 139)),Om 18 140])))))) (.region [Oa 141 (.bin .add (Tm 108) (Kz 1)),Om 108 141])))))
def lf9 : LFunc := ⟨169,[.slot 6,.slot 7,.slot 8],.seq (.region [Oa 4 (.newv 3 26 (Tm 1)),Oa 5 (.newv 3 26 (Tm 2)),Oa 6 (.mov (.cst (.tight []))),Oa 7 (.mov (.cst (.tight []))),Oa 8 (.mov (Kz 0))]) (.seq (.region [Om 26 0,Oa 27 (.call 20 [Tm 26]),Om 9 27]) (.seq (.seq (.region [Oz 28 1 4,Oq 29 1 false 28,Oz 30 1 5,Oq 31 1 false 30,Oa 32 (.bin .neq (Tm 29) (Tm 31)),Om 33 32,Od 34 33 (.fadr 2 (Tm 4)),Od 35 33 (.load 1 false (Tm 34)),Od 36 33 (.len (Tm 35)),Od 37 33 (.fadr 2 (Tm 5)),Od 38 33 (.load 1 false (Tm 37)),Od 39 33 (.len (Tm 38)),Od 40 33 (.bin .neq (Tm 36) (Tm 39)),Ou 41 33 40,Om 42 41,Od 43 42 (.fadr 0 (Tm 4)),Od 44 42 (.load 1 false (Tm 43)),Od 45 42 (.fadr 0 (Tm 5)),Od 46 42 (.load 1 false (Tm 45)),Od 47 42 (.bin .eql (Tm 44) (Tm 46)),Ou 48 42 47]) (.cond (Tm 48) (.seq (.region [Oa 6 (.mov (.cst (.tight []))),Oa 7 (.mov (.cst (.tight []))),Oa 8 (.mov (Kz 1))]) (.ret)) (.skip))) (.seq (.regionN 2 [(Oz 49 0 4,.s),(Oq 50 1 false 49,.s),(Oa 51 (.buildSl 1 3 (.p (.int .i64 0)) 1 [(0,(Tm 50))]),.n 0),(Oz 52 2 4,.s),(Oq 53 1 false 52,.s),(Oa 54 (.app 1 8 3 (Tm 51) (Tm 53)),.a [1]),(Oz 55 0 5,.s),(Oq 56 1 false 55,.s),(Oa 57 (.buildSl 1 3 (.p (.int .i64 0)) 1 [(0,(Tm 56))]),.n 1),(Oz 58 2 5,.s),(Oq 59 1 false 58,.s),(Oa 60 (.app 1 8 3 (Tm 57) (Tm 59)),.f),(Om 10 54,.f),(Om 11 60,.f)]) (.seq (.seq (.region [Om 61 10,Oa 62 (.len (Tm 61)),Oa 63 (.mov (Kz 0))]) (lf9_B0)) (.seq (.region [Oa 18 (.mov (.cst (.tight [])))]) (.seq (.seq (.region [Oz 105 2 4,Oq 106 1 false 105,Oa 107 (.len (Tm 106)),Oa 108 (.mov (Kz 0))]) (lf9_B1)) (.seq (.region [Om 143 9,Oz 144 0 4,Oq 145 1 false 144,Oa 146 (.mget false (.p (.int .i64 0)) (Tm 143) (Tm 145)),Oz 147 0 4,Oq 148 1 false 147,Oz 149 0 5,Oq 150 1 false 149,Oa 151 (.call 22 [Tm 146,Tm 148,Tm 150]),Om 142 151,Ox 152 142 0,Ox 153 142 1,Ox 154 142 2,Om 23 152,Om 24 153,Om 25 154]) (.seq (.seq (.region [Om 155 25,Oa 156 (.bin .neq (Tm 155) (Kz 0))]) (.cond (Tm 156) (.seq (.region [Om 157 25,Oa 6 (.mov (.cst (.tight []))),Oa 7 (.mov (.cst (.tight
 []))),Om 8 157]) (.ret)) (.skip))) (.seq (.seq (.region [Om 158 24,Oa 159 (.len (Tm 158)),Oa 160 (.bin .gtr (Tm 159) (Kz 0))]) (.cond (Tm 160) (.region [Om 161 18,Oa 162 (.call 23 [Tm 161]),Om 163 24,Oa 164 (.app 8 112 80 (Tm 162) (Tm 163)),Om 24 164]) (.skip))) (.seq (.region [Om 165 18,Om 166 23,Oa 167 (.app 8 112 80 (Tm 165) (Tm 166)),Om 168 24,Om 6 167,Om 7 168,Oa 8 (.mov (Kz 0))]) (.ret)))))))))))⟩
theorem low9 : vh Tryz.prog gl0 true 9 = some lf9 := lowN (by kernel_rfl)
def lf10_B0 : LCode := .block 2 (.loop (.seq (.seq (.region [Om 22 10,Om 23 0,Oa 24 (.len (Tm 23)),Oa 25 (.bin .lss (Tm 22) (Tm 24))]) (.cond (Tm 25) (.skip) (.exit 2))) (.seq (.block 3 (.seq (.regionD [Om 28 7,Oq 29 3 true 9,Om 30 0,Om 31 10,Oa 32 (.iadr 3 (Tm 30) (Tm 31)),Oq 33 3 true 32,Oa 34 (.call 25 [Tm 28,Tm 29,Tm 33])]) (.cond (Tm 34) (.seq (.region [Om 35 8,Om 36 10,Om 4 35,Om 5 36,Oa 6 (.mov Kt)]) (.ret)) (.skip)))) (.region [Om 26 10,Oa 27 (.bin .add (Tm 26) (Kz 1)),Om 10 27]))))
def lf10_B1 : LCode := .block 0 (.loop (.seq (.region [Oa 16 (.bin .lss (Tm 15) (Tm 14))]) (.seq (.cond (Tm 16) (.skip) (.exit 0)) (.seq (.block 1 (.seq (.region [Om 17 15,Oa 18 (.iadr 3 (Tm 13) (Tm 15)),Oq 19 3 true 18,Oa 9 (.newv 3 26 (.cst (.agg [.p (.int .i64 0),.p (.str []),.tight []]))),Om 8 17,Oy 3 9 19]) (.seq (.region [Om 20 8,Oa 21 (.bin .add (Tm 20) (Kz 1)),Om 10 21]) (lf10_B0)))) (.region [Oa 37 (.bin .add (Tm 15) (Kz 1)),Om 15 37])))))
def lf10 : LFunc := ⟨38,[.slot 4,.slot 5,.slot 6],.seq (.region [Oa 4 (.mov (Kz 0)),Oa 5 (.mov (Kz 0)),Oa 6 (.mov Kg)]) (.seq (.region [Om 11 1,Oa 12 (.call 24 [Tm 11]),Om 7 12]) (.seq (.seq (.region [Om 13 0,Oa 14 (.len (Tm 13)),Oa 15 (.mov (Kz 0))]) (lf10_B1)) (.seq (.region [Oa 4 (.mov (Kz 0)),Oa 5 (.mov (Kz 0)),Oa 6 (.mov Kg)]) (.ret))))⟩
theorem low10 : zi Tryz.prog gl0 10 = some lf10 := Go.Abs.lowF (by kernel_rfl)
def lf12_B0 : LCode := .block 0 (.loop (.seq (.region [Oa 36 (.bin .lss (Tm 35) (Tm 34))]) (.seq (.cond (Tm 36) (.skip) (.exit 0)) (.seq (.block 1 (.seq (.region [Oa 37 (.iadr 3 (Tm 33) (Tm 35)),Oq 38 3 true 37,Oa 15 (.newv 3 26 (.cst (.agg [.p (.int .i64 0),.p (.str []),.tight []]))),Oy 3 15 38]) (.seq (.region [Om 40 11,Oz 41 0 15,Oq 42 1 false 41,Oa 43 (.buildSl 1 3 (.p (.int .i64 0)) 1 [(0,(Tm 42))]),Oz 44 2 15,Oq 45 1 false 44,Oa 46 (.app 1 8 3 (Tm 43) (Tm 45)),Oa 47 (.call 27 [Tm 40,Tm 46]),Om 39 47,Ox 48 39 0,Ox 49 39 1,Om 16 48,Om 17 49]) (.seq (.seq (.region [Om 50 17,Oa 51 (.un .not (Tm 50))]) (.cond (Tm 51) (.seq (.region [Oa 6 (.mov (.cst (.tight []))),Oa 7 (.mov (Kz 1))]) (.ret)) (.skip))) (.seq (.region [Om 52 13,Oa 53 (.mkf 29 [Tm 15]),Oa 54 (.call 28 [Tm 52,Tm 53]),Om 18 54]) (.seq (.seq (.region [Om 55 18,Oa 56 (.bin .lss (Tm 55) (Kz 0))]) (.cond (Tm 56) (.seq (.region [Om 57 13,Oa 58 (.len (Tm 57)),Om 18 58]) (.regionW [(Om 59 13,.f),(Oz 60 1 15,.s),(Oq 61 1 false 60,.s),(Om 62 12,.f),(Oz 63 0 15,.f),(Oq 64 1 false 63,.f),(Oa 65 (.mget false (.p (.int .i64 0)) (Tm 62) (Tm 64)),.f),(Oa 66 (.minmax true (Tm 65) (Kz 0)),.f),(Oa 67 (.call 30 [Tm 66]),.s),(Oa 68 (.build (.agg [.p (.str []),.tight [],.p (.int .i64 0),.p (.bool false),.p (.bool false),.tight [],.tight [],.p (.int .i64 0)]) [(0,1,(Tm 61)),(2,6,(Tm 67))]),.f),(Oa 69 (.buildSl 8 54 (.agg [.p (.str []),.tight [],.p (.int .i64 0),.p (.bool false),.p (.bool false),.tight [],.tight [],.p (.int .i64 0)]) 1 [(0,(Tm 68))]),.f),(Oa 70 (.app 8 120 54 (Tm 59) (Tm 69)),.f),(Om 13 70,.f)])) (.skip))) (.seq (.regionD [Om 71 13,Om 72 18,Oa 73 (.iadr 8 (Tm 71) (Tm 72)),Oq 74 8 true 73,Om 75 16,Oa 76 (.slSl 6 (Tm 75) (some (Kz 1)) none none),Oa 77 (.call 31 [Tm 74,Tm 76]),Oa 78 (.bin .lss (Tm 77) (Kz 0))]) (.cond (Tm 78) (.regionW [(Om 79 13,.f),(Om 80 18,.f),(Om 81 13,.f),(Om 82 18,.f),(Oa 83 (.iadr 8 (Tm 81) (Tm 82)),.s),(Oz 84 1 83,.s),(Oq 85 1 false 84,.s),(Om 86 16,.f),(Oa 87 (.slSl 6 (Tm 86) (some (Kz 1)) none none),.f),(Om
 88 16,.f),(Oa 89 (.iadr 6 (Tm 88) (Kz 0)),.f),(Oq 90 6 true 89,.f),(Oa 91 (.build (.agg [.tight [],.p (.int .i64 0),.p (.bool false),.p (.bool false),.tight [],.tight [],.p (.int .i64 0)]) [(0,1,(Tm 87)),(1,6,(Tm 90))]),.f),(Oa 92 (.buildSl 7 58 (.agg [.tight [],.p (.int .i64 0),.p (.bool false),.p (.bool false),.tight [],.tight [],.p (.int .i64 0)]) 1 [(0,(Tm 91))]),.s),(Oa 93 (.app 7 104 58 (Tm 85) (Tm 92)),.f),(Oa 94 (.iadr 8 (Tm 79) (Tm 80)),.f),(Oz 95 1 94,.f),(Oy 1 95 93,.f)]) (.skip))))))))) (.region [Oa 96 (.bin .add (Tm 35) (Kz 1)),Om 35 96])))))
def lf12_B1 : LCode := .block 2 (.loop (.seq (.region [Oa 102 (.bin .lss (Tm 101) (Tm 100))]) (.seq (.cond (Tm 102) (.skip) (.exit 2)) (.seq (.block 3 (.seq (.region [Om 103 101,Oa 104 (.iadr 8 (Tm 99) (Tm 101)),Oq 105 8 true 104,Oa 20 (.newv 8 54 (.cst (.agg [.p (.str []),.tight [],.p (.int .i64 0),.p (.bool false),.p (.bool false),.tight [],.tight [],.p (.int .i64 0)]))),Om 19 103,Oy 8 20 105]) (.region [Om 106 13,Om 107 19,Oq 108 8 true 20,Oa 109 (.call 35 [Tm 108]),Oa 110 (.iadr 8 (Tm 106) (Tm 107)),Oy 8 110 109]))) (.region [Oa 111 (.bin .add (Tm 101) (Kz 1)),Om 101 111])))))
def lf12 : LFunc := ⟨113,[.slot 6,.slot 7],.seq (.region [Oa 6 (.mov (.cst (.tight []))),Oa 7 (.mov (Kz 0))]) (.seq (.seq (.region [Om 22 0,Om 23 2,Oa 24 (.call 10 [Tm 22,Tm 23]),Om 21 24,Ox 25 21 0,Ox 26 21 1,Ox 27 21 2,Om 8 25,Om 9 26,Om 10 27]) (.seq (.region [Om 28 10]) (.cond (Tm 28) (.seq (.region [Oa 6 (.mov (.cst (.tight []))),Oa 7 (.mov (Kz 1))]) (.ret)) (.skip)))) (.seq (.region [Om 29 2,Oa 30 (.call 24 [Tm 29]),Om 31 1,Oa 32 (.call 20 [Tm 31]),Om 11 30,Om 12 32]) (.seq (.region [Oa 13 (.mov (.cst (.tight [])))]) (.seq (.seq (.region [Om 33 0,Oa 34 (.len (Tm 33)),Oa 35 (.mov (Kz 0))]) (lf12_B0)) (.seq (.region [Om 97 13,Oa 98 (.call 32 [Tm 97,.cst (.p (.clo 33 []))])]) (.seq (.seq (.region [Om 99 13,Oa 100 (.len (Tm 99)),Oa 101 (.mov (Kz 0))]) (lf12_B1)) (.seq (.region [Om 112 13,Om 6 112,Oa 7 (.mov (Kz 0))]) (.ret))))))))⟩
theorem low12 : zi Tryz.prog gl0 12 = some lf12 := Go.Abs.lowF (by kernel_rfl)
def lf17_B0 : LCode := .block 4 (.loop (.seq (.region [Oa 45 (.bin .lss (Tm 44) (Tm 43))]) (.seq (.cond (Tm 45) (.skip) (.exit 4)) (.seq (.block 5 (.seq (.region [Oa 46 (.iadr 2 (Tm 42) (Tm 44)),Oq 47 2 true 46,Oa 13 (.newv 2 67 (.cst (.p (.agg [.int .i64 0,.int .i64 0])))),Oy 2 13 47]) (.seq (.region [Om 49 8,Oa 50 (.iaadr 2 1 (Tm 13) (Kz 0)),Oq 51 1 false 50,Oa 52 (.mget true (.p (.int .i64 0)) (Tm 49) (Tm 51)),Om 48 52,Ox 53 48 0,Ox 54 48 1,Om 14 53,Om 15 54]) (.seq (.region [Om 56 8,Oa 57 (.iaadr 2 1 (Tm 13) (Kz 1)),Oq 58 1 false 57,Oa 59 (.mget true (.p (.int .i64 0)) (Tm 56) (Tm 58)),Om 55 59,Ox 60 55 0,Ox 61 55 1,Om 16 60,Om 17 61]) (.seq (.region [Om 62 15,Om 63 62,Oj 64 63 17,Oc 65 63 (.un .not (Tm 64)),Oj 66 63 65,Oo 67 66 16,Oo 68 66 14,Od 69 66 (.bin .add (Tm 68) (Kz 1)),Od 70 66 (.bin .gtr (Tm 67) (Tm 69)),Oc 71 63 (.pick (Tm 66) Kt (Tm 70)),Ot 72 63 71]) (.cond (Tm 72) (.seq (.region [Om 73 8,Oa 74 (.iaadr 2 1 (Tm 13) (Kz 1)),Oq 75 1 false 74,Om 76 14,Oa 77 (.bin .add (Tm 76) (Kz 1)),Ob (.mset (Tm 73) (Tm 75) (Tm 77))]) (.region [Oa 9 (.mov Kt)])) (.skip))))))) (.region [Oa 78 (.bin .add (Tm 44) (Kz 1)),Om 44 78])))))
def lf17_B1 : LCode := .block 2 (.loop (.seq (.region [Oa 33 (.bin .lss (Tm 32) (Tm 31))]) (.seq (.cond (Tm 33) (.skip) (.exit 2)) (.seq (.block 3 (.seq (.region [Oa 34 (.iadr 2 (Tm 30) (Tm 32)),Oq 35 2 true 34,Oa 11 (.newv 2 67 (.cst (.p (.agg [.int .i64 0,.int .i64 0])))),Oy 2 11 35]) (.seq (.region [Oq 36 2 true 11,Oa 37 (.iaadr 2 1 (Tm 11) (Kz 1)),Oq 38 1 false 37,Oa 39 (.iaadr 2 1 (Tm 11) (Kz 0)),Oq 40 1 false 39,Oa 41 (.build (.p (.agg [.int .i64 0,.int .i64 0])) [(0,1,(Tm 38)),(1,1,(Tm 40))]),Oa 42 (.buildSl 2 67 (.p (.agg [.int .i64 0,.int .i64 0])) 2 [(0,(Tm 36)),(1,(Tm 41))]),Oa 43 (.len (Tm 42)),Oa 44 (.mov (Kz 0))]) (lf17_B0)))) (.region [Oa 79 (.bin .add (Tm 32) (Kz 1)),Om 32 79])))))
def lf17_B2 : LCode := .block 0 (.loop (.seq (.seq (.region [Om 29 9]) (.cond (Tm 29) (.skip) (.exit 0))) (.block 1 (.seq (.region [Oa 9 (.mov Kg)]) (.seq (.region [Om 30 0,Oa 31 (.len (Tm 30)),Oa 32 (.mov (Kz 0))]) (lf17_B1))))))
def lf17_B3 : LCode := .block 8 (.loop (.seq (.region [Oa 94 (.bin .lss (Tm 93) (Tm 92))]) (.seq (.cond (Tm 94) (.skip) (.exit 8)) (.seq (.block 9 (.seq (.region [Oa 95 (.iadr 2 (Tm 91) (Tm 93)),Oq 96 2 true 95,Oa 22 (.newv 2 67 (.cst (.p (.agg [.int .i64 0,.int .i64 0])))),Oy 2 22 96]) (.seq (.region [Oa 97 (.iaadr 2 1 (Tm 22) (Kz 1)),Oq 98 1 false 97,Om 23 98]) (.seq (.seq (.region [Oa 99 (.iaadr 2 1 (Tm 22) (Kz 0)),Oq 100 1 false 99,Om 101 1,Oa 102 (.bin .neq (Tm 100) (Tm 101))]) (.cond (Tm 102) (.region [Oa 103 (.iaadr 2 1 (Tm 22) (Kz 0)),Oq 104 1 false 103,Om 23 104]) (.skip))) (.seq (.region [Om 106 8,Om 107 23,Oa 108 (.mget true (.p (.int .i64 0)) (Tm 106) (Tm 107)),Om 105 108,Ox 109 105 0,Ox 110 105 1,Om 24 109,Om 25 110]) (.seq (.region [Oa 111 (.iaadr 2 1 (Tm 22) (Kz 0)),Oq 112 1 false 111,Om 113 1,Oa 114 (.bin .eql (Tm 112) (Tm 113)),Om 115 114,Od 116 115 (.iaadr 2 1 (Tm 22) (Kz 1)),Od 117 115 (.load 1 false (Tm 116)),Oo 118 115 1,Od 119 115 (.bin .eql (Tm 117) (Tm 118)),Ou 120 115 119,Om 121 120,Oj 122 121 25,Ot 123 121 122,Om 124 123,Oj 125 124 24,Oj 126 124 8,Oj 127 124 1,Oc 128 124 (.mget false (.p (.int .i64 0)) (Tm 126) (Tm 127)),Oc 129 124 (.bin .sub (Tm 128) (Kz 1)),Oc 130 124 (.bin .eql (Tm 125) (Tm 129)),Ot 131 124 130]) (.cond (Tm 131) (.seq (.region [Om 132 20,Oq 133 2 true 22,Oa 134 (.buildSl 2 67 (.p (.agg [.int .i64 0,.int .i64 0])) 1 [(0,(Tm 133))]),Oa 135 (.app 2 16 67 (Tm 132) (Tm 134)),Om 20 135]) (.seq (.region [Om 136 23,Om 1 136]) (.exit 8))) (.skip)))))))) (.region [Oa 137 (.bin .add (Tm 93) (Kz 1)),Om 93 137])))))
def lf17_B4 : LCode := .block 6 (.loop (.seq (.seq (.region [Om 88 1,Om 89 2,Oa 90 (.bin .neq (Tm 88) (Tm 89))]) (.cond (Tm 90) (.skip) (.exit 6))) (.block 7 (.seq (.region [Om 91 0,Oa 92 (.len (Tm 91)),Oa 93 (.mov (Kz 0))]) (lf17_B3)))))
def lf17 : LFunc := ⟨139,[.slot 6,.slot 7],.seq (.region [Oa 6 (.mov (.cst (.tight []))),Oa 7 (.mov (Kz 0))]) (.seq (.region [Oa 26 .mkm,Om 27 2,Ob (.mset (Tm 26) (Tm 27) (Kz 0)),Om 28 26,Om 8 28]) (.seq (.seq (.region [Oa 9 (.mov Kt)]) (lf17_B2)) (.seq (.seq (.region [Om 81 8,Om 82 1,Oa 83 (.mget true (.p (.int .i64 0)) (Tm 81) (Tm 82)),Om 80 83,Ox 84 80 0,Ox 85 80 1,Om 18 84,Om 19 85]) (.seq (.region [Om 86 19,Oa 87 (.un .not (Tm 86))]) (.cond (Tm 87) (.seq (.region [Oa 6 (.mov (.cst (.tight []))),Oa 7 (.mov (Kz 5))]) (.ret)) (.skip)))) (.seq (.region [Oa 20 (.mov (.cst (.tight [])))]) (.seq (lf17_B4) (.seq (.region [Om 138 20,Om 6 138,Oa 7 (.mov (Kz 0))]) (.ret)))))))⟩
theorem low17 : zi Tryz.prog gl0 17 = some lf17 := Go.Abs.lowF (by kernel_rfl)
def lf18_B0 : LCode := .block 0 (.loop (.seq (.region [Oa 13 (.bin .lss (Tm 12) (Tm 11))]) (.seq (.cond (Tm 13) (.skip) (.exit 0)) (.seq (.block 1 (.seq (.region [Oa 14 (.iadr 6 (Tm 10) (Tm 12)),Oq 15 6 true 14,Oa 7 (.newv 6 35 (.cst (.agg [.p (.int .i64 0),.p (.bool false),.p (.bool false),.tight [],.tight [],.p (.int .i64 0)]))),Oy 6 7 15]) (.seq (.region [Oz 16 0 7,Oq 17 1 false 16,Om 18 0,Oa 19 (.bin .eql (Tm 17) (Tm 18))]) (.cond (Tm 19) (.region [Om 20 5,Oz 21 5 7,Oq 22 1 false 21,Ob (.mset (Tm 20) (Tm 22) Kt)]) (.skip))))) (.region [Oa 23 (.bin .add (Tm 12) (Kz 1)),Om 12 23])))))
def lf18_B1 : LCode := .block 2 (.loop (.seq (.seq (.region [Om 26 5,Oz 27 5 8,Oq 28 1 false 27,Oa 29 (.mget false (.p (.bool false)) (Tm 26) (Tm 28))]) (.cond (Tm 29) (.skip) (.exit 2))) (.block 3 (.region [Oz 30 5 8,Oq 31 1 false 30,Oa 32 (.bin .add (Tm 31) (Kz 1)),Oz 33 5 8,Oy 1 33 32]))))
def lf18 : LFunc := ⟨35,[.cell 4 6 true],.seq (.region [Oa 4 (.newv 6 35 (.cst (.agg [.p (.int .i64 0),.p (.bool false),.p (.bool false),.tight [],.tight [],.p (.int .i64 0)])))]) (.seq (.region [Oa 9 .mkm,Om 5 9]) (.seq (.seq (.region [Om 10 1,Oa 11 (.len (Tm 10)),Oa 12 (.mov (Kz 0))]) (lf18_B0)) (.seq (.region [Om 24 0,Oa 25 (.build (.agg [.p (.int .i64 0),.p (.bool false),.p (.bool false),.tight [],.tight [],.p (.int .i64 0)]) [(0,1,(Tm 24))]),Oa 8 (.newv 6 35 (.cst (.agg [.p (.int .i64 0),.p (.bool false),.p (.bool false),.tight [],.tight [],.p (.int .i64 0)]))),Oy 6 8 25]) (.seq (lf18_B1) (.seq (.region [Oq 34 6 true 8,Oy 6 4 34]) (.ret))))))⟩
theorem low18 : zi Tryz.prog gl0 18 = some lf18 := Go.Abs.lowF (by kernel_rfl)
def lf20 : LFunc := ⟨17,[.slot 2],.seq (.region [Oa 2 (.mov (.cst .nilm))]) (.seq (.region [Oa 6 .mkm,Oa 3 (.newv 1 81 (.cst .nilm)),Oy 1 3 6]) (.seq (.seq (.region [Om 7 0,Oa 8 (.call 39 [Tm 7])]) (.block 0 (.bad))) (.seq (.region [Oq 16 1 false 3,Om 2 16]) (.ret))))⟩
theorem low20 : zi Tryz.prog gl0 20 = some lf20 := Go.Abs.lowF (by kernel_rfl)
def lf21 : LFunc := ⟨47,[.cell 6 7 true,.slot 7],.seq (.region [Oa 6 (.newv 7 78 (.cst Za)),Oa 7 (.mov (Kz 0))]) (.seq (.seq (.region [Om 10 0,Oa 11 (.bin .neq (Tm 10) (Kz 1))]) (.cond (Tm 11) (.seq (.region [Om 12 1,Om 13 2,Oa 14 (.call 40 [Tm 12,Tm 13]),Ox 15 14 0,Ox 16 14 1,Oy 7 6 15,Om 7 16]) (.ret)) (.skip))) (.seq (.region [Om 18 2,Oa 19 (.call 42 [Tm 18]),Oa 20 (.call 43 [.cst (.p (.int .i64 (-1))),.cst (.p (.int .i64 1))]),Oa 21 (.call 41 [Tm 19,Tm 20]),Om 17 21,Ox 22 17 0,Ox 23 17 1,Oa 8 (.newv 4 76 (.cst Zp)),Oy 4 8 22,Om 7 23]) (.seq (.seq (.region [Om 24 7,Oa 25 (.bin .neq (Tm 24) (Kz 0))]) (.cond (Tm 25) (.seq (.region [Oq 26 7 true 6,Om 27 7,Oy 7 6 26,Om 7 27]) (.ret)) (.skip))) (.seq (.regionW [(Om 29 1,.f),(Oa 30 (.call 42 [Tm 29]),.t),(Oq 31 4 true 8,.s),(Oa 32 (.call 44 [Tm 30,Tm 31]),.t),(Om 28 32,.f),(Ox 33 28 0,.f),(Ox 34 28 1,.f),(Oa 9 (.newv 4 76 (.cst Zp)),.s),(Oy 4 9 33,.f),(Om 7 34,.f)]) (.seq (.seq (.region [Om 35 7,Oa 36 (.bin .neq (Tm 35) (Kz 0))]) (.cond (Tm 36) (.seq (.region [Oq 37 7 true 6,Om 38 7,Oy 7 6 37,Om 7 38]) (.ret)) (.skip))) (.seq (.region [Oq 40 4 true 9,Oa 41 (.call 45 [.cst (.p (.int .i64 3)),Tm 40]),Om 39 41,Ox 42 39 0,Ox 43 39 1,Ox 44 39 2,Oy 7 6 42,Om 7 44]) (.seq (.region [Oq 45 7 true 6,Om 46 7,Oy 7 6 45,Om 7 46]) (.ret))))))))⟩
theorem low21 : zi Tryz.prog gl0 21 = some lf21 := Go.Abs.lowF (by kernel_rfl)
def lf22 : LFunc := ⟨50,[.slot 6,.slot 7,.slot 8],.seq (.region [Oa 6 (.mov (.cst (.tight []))),Oa 7 (.mov (.cst (.tight []))),Oa 8 (.mov (Kz 0))]) (.seq (.seq (.region [Om 13 0,Oa 14 (.bin .neq (Tm 13) (Kz 0))]) (.cond (Tm 14) (.seq (.region [Om 16 0,Om 17 1,Om 18 2,Oa 19 (.call 21 [Tm 16,Tm 17,Tm 18]),Om 15 19,Ox 20 15 0,Ox 21 15 1,Oa 9 (.newv 7 78 (.cst Za)),Oy 7 9 20,Om 10 21]) (.seq (.region [Oq 22 7 true 9,Oa 23 (.build Zl [(0,7,(Tm 22))]),Oa 24 (.buildSl 8 80 Zl 1 [(0,(Tm 23))]),Om 25 10,Om 6 24,Oa 7 (.mov (.cst (.tight []))),Om 8 25]) (.ret))) (.skip))) (.seq (.region [Om 27 1,Oa 28 (.call 46 [Tm 27]),Om 26 28,Ox 29 26 0,Ox 30 26 1,Oa 11 (.newv 7 78 (.cst Za)),Oy 7 11 29,Om 8 30]) (.seq (.seq (.region [Om 31 8,Oa 32 (.bin .neq (Tm 31) (Kz 0))]) (.cond (Tm 32) (.seq (.region [Om 33 8,Oa 6 (.mov (.cst (.tight []))),Oa 7 (.mov (.cst (.tight []))),Om 8 33]) (.ret)) (.skip))) (.seq (.region [Om 35 2,Oa 36 (.call 46 [Tm 35]),Om 34 36,Ox 37 34 0,Ox 38 34 1,Oa 12 (.newv 7 78 (.cst Za)),Oy 7 12 37,Om 8 38]) (.seq (.regionN 2 [(Oq 39 7 true 11,.s),(Oa 40 (.build Zl [(0,7,(Tm 39))]),.f),(Oq 41 7 true 12,.s),(Oa 42 (.build Zl [(0,7,(Tm 41)),(7,1,Kt)]),.f),(Oa 43 (.buildSl 8 80 Zl 2 [(0,(Tm 40)),(1,(Tm 42))]),.n 0),(Oq 44 7 true 11,.s),(Oa 45 (.build Zl [(0,7,(Tm 44)),(7,1,Kt)]),.f),(Oq 46 7 true 12,.s),(Oa 47 (.build Zl [(0,7,(Tm 46))]),.f),(Oa 48 (.buildSl 8 80 Zl 2 [(0,(Tm 45)),(1,(Tm 47))]),.n 1),(Om 49 8,.f),(Om 6 43,.f),(Om 7 48,.f),(Om 8 49,.f)]) (.ret))))))⟩
theorem low22 : vh Tryz.prog gl0 true 22 = some lf22 := lowN (by kernel_rfl)
def lf23 : LFunc := ⟨8,[.slot 2],.seq (.region [Oa 2 (.mov (.cst (.tight [])))]) (.seq (.seq (.region [Om 3 0,Oa 4 (.eqS false (Tm 3) (.cst (.tight [])))]) (.cond (Tm 4) (.seq (.region [Oa 2 (.mov (.cst (.tight [])))]) (.ret)) (.skip))) (.seq (.region [Oa 5 (.buildSl 8 80 Zl 0 []),Om 6 0,Oa 7 (.app 8 112 80 (Tm 5) (Tm 6)),Om 2 7]) (.ret)))⟩
theorem low23 : zi Tryz.prog gl0 23 = some lf23 := Go.Abs.lowF (by kernel_rfl)
def lf24 : LFunc := ⟨17,[.slot 2],.seq (.region [Oa 2 (.mov (.cst .nilm))]) (.seq (.region [Oa 6 .mkm,Oa 3 (.newv 1 88 (.cst .nilm)),Oy 1 3 6]) (.seq (.seq (.region [Om 7 0,Oa 8 (.call 47 [Tm 7])]) (.block 0 (.bad))) (.seq (.region [Oq 16 1 false 3,Om 2 16]) (.ret))))⟩
theorem low24 : zi Tryz.prog gl0 24 = some lf24 := Go.Abs.lowF (by kernel_rfl)
def lf25 : LFunc := ⟨68,[.slot 6],.seq (.region [Oa 4 (.newv 3 26 (Tm 1)),Oa 5 (.newv 3 26 (Tm 2)),Oa 6 (.mov Kg)]) (.seq (.seq (.region [Oz 11 1 4,Oq 12 1 false 11,Oz 13 1 5,Oq 14 1 false 13,Oa 15 (.bin .neq (Tm 12) (Tm 14)),Om 16 15,Od 17 16 (.fadr 2 (Tm 4)),Od 18 16 (.load 1 false (Tm 17)),Od 19 16 (.len (Tm 18)),Od 20 16 (.fadr 2 (Tm 5)),Od 21 16 (.load 1 false (Tm 20)),Od 22 16 (.len (Tm 21)),Od 23 16 (.bin .neq (Tm 19) (Tm 22)),Ou 24 16 23]) (.cond (Tm 24) (.seq (.region [Oa 6 (.mov Kg)]) (.ret)) (.skip))) (.seq (.region [Om 26 0,Oz 27 0 4,Oq 28 1 false 27,Oa 29 (.buildSl 1 3 (.p (.int .i64 0)) 1 [(0,(Tm 28))]),Oz 30 2 4,Oq 31 1 false 30,Oa 32 (.app 1 8 3 (Tm 29) (Tm 31)),Oa 33 (.call 27 [Tm 26,Tm 32]),Om 25 33,Ox 34 25 0,Ox 35 25 1,Om 7 34,Om 8 35]) (.seq (.region [Om 37 0,Oz 38 0 5,Oq 39 1 false 38,Oa 40 (.buildSl 1 3 (.p (.int .i64 0)) 1 [(0,(Tm 39))]),Oz 41 2 5,Oq 42 1 false 41,Oa 43 (.app 1 8 3 (Tm 40) (Tm 42)),Oa 44 (.call 27 [Tm 37,Tm 43]),Om 36 44,Ox 45 36 0,Ox 46 36 1,Om 9 45,Om 10 46]) (.seq (.regionD [Om 47 8,Om 48 47,Oj 49 48 10,Ot 50 48 49,Om 51 50,Oj 52 51 7,Oc 53 51 (.slSl 6 (Tm 52) (some (Kz 1)) none none),Oj 54 51 9,Oc 55 51 (.slSl 6 (Tm 54) (some (Kz 1)) none none),Oc 56 51 (.call 48 [Tm 53,Tm 55,.cst (.p (.clo 49 []))]),Ot 57 51 56,Om 58 57,Oj 59 58 7,Oc 60 58 (.iadr 6 (Tm 59) (Kz 0)),Oc 61 58 (.load 6 true (Tm 60)),Oj 62 58 9,Oc 63 58 (.iadr 6 (Tm 62) (Kz 0)),Oc 64 58 (.load 6 true (Tm 63)),Oc 65 58 (.call 49 [Tm 61,Tm 64]),Oc 66 58 (.un .not (Tm 65)),Ot 67 58 66,Om 6 67]) (.ret)))))⟩
theorem low25 : zi Tryz.prog gl0 25 = some lf25 := Go.Abs.lowF (by kernel_rfl)
def lf27_B0 : LCode := .block 0 (.loop (.seq (.region [Oa 13 (.bin .lss (Tm 12) (Tm 11))]) (.seq (.cond (Tm 13) (.skip) (.exit 0)) (.seq (.block 1 (.seq (.region [Oa 14 (.iadr 1 (Tm 10) (Tm 12)),Oq 15 1 false 14,Om 7 15]) (.seq (.region [Om 17 0,Om 18 7,Oa 19 (.mget true (.agg [.p (.int .i64 0),.p (.bool false),.p (.bool false),.tight [],.tight [],.p (.int .i64 0)]) (Tm 17) (Tm 18)),Om 16 19,Ox 20 16 0,Ox 21 16 1,Oa 8 (.newv 6 35 (.cst (.agg [.p (.int .i64 0),.p (.bool false),.p (.bool false),.tight [],.tight [],.p (.int .i64 0)]))),Oy 6 8 20,Om 9 21]) (.seq (.seq (.region [Om 22 9,Oa 23 (.un .not (Tm 22))]) (.cond (Tm 23) (.seq (.region [Oa 4 (.mov (.cst (.tight []))),Oa 5 (.mov Kg)]) (.ret)) (.skip))) (.region [Om 24 4,Oq 25 6 true 8,Oa 26 (.buildSl 6 35 (.agg [.p (.int .i64 0),.p (.bool false),.p (.bool false),.tight [],.tight [],.p (.int .i64 0)]) 1 [(0,(Tm 25))]),Oa 27 (.app 6 80 35 (Tm 24) (Tm 26)),Om 4 27]))))) (.region [Oa 28 (.bin .add (Tm 12) (Kz 1)),Om 12 28])))))
def lf27 : LFunc := ⟨30,[.slot 4,.slot 5],.seq (.region [Oa 4 (.mov (.cst (.tight []))),Oa 5 (.mov Kg)]) (.seq (.seq (.region [Om 10 1,Oa 11 (.len (Tm 10)),Oa 12 (.mov (Kz 0))]) (lf27_B0)) (.seq (.region [Om 29 4,Om 4 29,Oa 5 (.mov Kt)]) (.ret)))⟩
theorem low27 : zi Tryz.prog gl0 27 = some lf27 := Go.Abs.lowF (by kernel_rfl)
def lf28_B0 : LCode := .block 0 (.loop (.seq (.region [Oa 9 (.bin .lss (Tm 8) (Tm 7))]) (.seq (.cond (Tm 9) (.skip) (.exit 0)) (.seq (.block 1 (.seq (.region [Om 10 8,Om 5 10]) (.seq (.region [Om 11 1,Om 12 0,Om 13 5,Oa 14 (.iadr 8 (Tm 12) (Tm 13)),Oq 15 8 true 14,Oa 16 (.callv (Tm 11) [Tm 15])]) (.cond (Tm 16) (.seq (.region [Om 17 5,Om 4 17]) (.ret)) (.skip))))) (.region [Oa 18 (.bin .add (Tm 8) (Kz 1)),Om 8 18])))))
def lf28 : LFunc := ⟨19,[.slot 4],.seq (.region [Oa 4 (.mov (Kz 0))]) (.seq (.seq (.region [Om 6 0,Oa 7 (.len (Tm 6)),Oa 8 (.mov (Kz 0))]) (lf28_B0)) (.seq (.region [Oa 4 (.mov (Kz (-1)))]) (.ret)))⟩
theorem low28 : zi Tryz.prog gl0 28 = some lf28 := Go.Abs.lowF (by kernel_rfl)
def lf29 : LFunc := ⟨9,[.slot 3],.seq (.region [Oa 2 (.newv 8 54 (Tm 0)),Oa 3 (.mov Kg)]) (.seq (.region [Oz 4 0 2,Oq 5 1 false 4,Oz 6 1 1,Oq 7 1 false 6,Oa 8 (.bin .eql (Tm 5) (Tm 7)),Om 3 8]) (.ret))⟩
theorem low29 : zi Tryz.prog gl0 29 = some lf29 := Go.Abs.lowF (by kernel_rfl)
def lf30 : LFunc := ⟨11,[.cell 2 6 true],.seq (.region [Oa 2 (.newv 6 35 (.cst (.agg [.p (.int .i64 0),.p (.bool false),.p (.bool false),.tight [],.tight [],.p (.int .i64 0)])))]) (.seq (.region [Om 4 0,Oa 5 (.build (.agg [.p (.int .i64 0),.p (.bool false),.p (.bool false),.tight [],.tight [],.p (.int .i64 0)]) [(0,1,(Tm 4))]),Oa 3 (.newv 6 35 (.cst (.agg [.p (.int .i64 0),.p (.bool false),.p (.bool false),.tight [],.tight [],.p (.int .i64 0)]))),Oy 6 3 5]) (.seq (.seq (.region [Om 6 0,Oa 7 (.bin .eql (Tm 6) (Kz 1))]) (.cond (Tm 7) (.region [Oa 8 (.call 53 []),Oz 9 2 3,Oy 3 9 8]) (.skip))) (.seq (.region [Oq 10 6 true 3,Oy 6 2 10]) (.ret))))⟩
theorem low30 : zi Tryz.prog gl0 30 = some lf30 := Go.Abs.lowF (by kernel_rfl)
def lf31 : LFunc := ⟨9,[.slot 4],.seq (.region [Oa 2 (.newv 8 54 (Tm 0)),Oa 3 (.newv 1 56 (Tm 1)),Oa 4 (.mov (Kz 0))]) (.seq (.region [Oz 5 1 2,Oq 6 1 false 5,Oa 7 (.mkf 55 [Tm 3]),Oa 8 (.call 54 [Tm 6,Tm 7]),Om 4 8]) (.ret))⟩
theorem low31 : zi Tryz.prog gl0 31 = some lf31 := Go.Abs.lowF (by kernel_rfl)
def lf32 : LFunc := ⟨14,[],.seq (.region [Om 5 0,Oa 6 (.len (Tm 5)),Om 4 6]) (.region [Om 7 0,Om 8 4,Om 9 4,Oa 10 (.conv (.toInt .u64) (Tm 9)),Oa 11 (.call 57 [Tm 10]),Om 12 1,Oa 13 (.call 56 [Tm 7,.cst (.p (.int .i64 0)),Tm 8,Tm 11,Tm 12])])⟩
theorem low32 : zi Tryz.prog gl0 32 = some lf32 := Go.Abs.lowF (by kernel_rfl)
def lf33 : LFunc := ⟨10,[.slot 4],.seq (.region [Oa 2 (.newv 8 54 (Tm 0)),Oa 3 (.newv 8 54 (Tm 1)),Oa 4 (.mov (Kz 0))]) (.seq (.region [Oz 5 0 2,Oq 6 1 false 5,Oz 7 0 3,Oq 8 1 false 7,Oa 9 (.call 34 [Tm 6,Tm 8]),Om 4 9]) (.ret))⟩
theorem low33 : zi Tryz.prog gl0 33 = some lf33 := Go.Abs.lowF (by kernel_rfl)
def lf34 : LFunc := ⟨20,[.slot 4],.seq (.region [Oa 4 (.mov (Kz 0))]) (.seq (.region [Om 7 0,Oa 8 (.call 58 [Tm 7]),Om 5 8]) (.seq (.region [Om 9 1,Oa 10 (.call 58 [Tm 9]),Om 6 10]) (.seq (.seq (.region [Om 11 5]) (.cond (Tm 11) (.seq (.seq (.region [Om 12 6]) (.cond (Tm 12) (.seq (.region [Oa 4 (.mov (Kz 0))]) (.ret)) (.skip))) (.seq (.region [Oa 4 (.mov (Kz (-1)))]) (.ret))) (.skip))) (.seq (.seq (.region [Om 13 6]) (.cond (Tm 13) (.seq (.region [Oa 4 (.mov (Kz 1))]) (.ret)) (.skip))) (.seq (.seq (.region [Om 14 0,Om 15 1,Oa 16 (.bin .lss (Tm 14) (Tm 15))]) (.cond (Tm 16) (.seq (.region [Oa 4 (.mov (Kz (-1)))]) (.ret)) (.skip))) (.seq (.seq (.region [Om 17 0,Om 18 1,Oa 19 (.bin .gtr (Tm 17) (Tm 18))]) (.cond (Tm 19) (.seq (.region [Oa 4 (.mov (Kz 1))]) (.ret)) (.skip))) (.seq (.region [Oa 4 (.mov (Kz 0))]) (.ret))))))))⟩
theorem low34 : zi Tryz.prog gl0 34 = some lf34 := Go.Abs.lowF (by kernel_rfl)
def lf35_B0 : LCode := .block 0 (.loop (.seq (.region [Oa 12 (.bin .lss (Tm 11) (Tm 10))]) (.seq (.cond (Tm 12) (.skip) (.exit 0)) (.seq (.block 1 (.seq (.region [Om 13 11,Oa 14 (.iadr 7 (Tm 9) (Tm 11)),Oq 15 7 true 14,Oa 5 (.newv 7 58 (.cst (.agg [.tight [],.p (.int .i64 0),.p (.bool false),.p (.bool false),.tight [],.tight [],.p (.int .i64 0)]))),Om 4 13,Oy 7 5 15]) (.regionW [(Om 16 3,.f),(Om 17 4,.f),(Oz 18 0 5,.f),(Oq 19 1 false 18,.f),(Oa 20 (.call 60 [Tm 19]),.s),(Oz 21 1 5,.s),(Oq 22 6 true 21,.s),(Oa 23 (.call 61 [Tm 22]),.f),(Oa 24 (.build (.agg [.tight [],.p (.int .i64 0),.p (.bool false),.p (.bool false),.tight [],.tight [],.p (.int .i64 0)]) [(0,1,(Tm 20)),(1,6,(Tm 23))]),.f),(Oa 25 (.iadr 7 (Tm 16) (Tm 17)),.f),(Oy 7 25 24,.f)]))) (.region [Oa 26 (.bin .add (Tm 11) (Kz 1)),Om 11 26])))))
def lf35 : LFunc := ⟨34,[.cell 2 8 true],.seq (.region [Oa 1 (.newv 8 54 (Tm 0)),Oa 2 (.newv 8 54 (.cst (.agg [.p (.str []),.tight [],.p (.int .i64 0),.p (.bool false),.p (.bool false),.tight [],.tight [],.p (.int .i64 0)])))]) (.seq (.region [Oz 6 1 1,Oq 7 1 false 6,Oa 8 (.call 59 [Tm 7]),Om 3 8]) (.seq (.seq (.region [Om 9 3,Oa 10 (.len (Tm 9)),Oa 11 (.mov (Kz 0))]) (lf35_B0)) (.seq (.regionW [(Oz 27 0 1,.s),(Oq 28 1 false 27,.s),(Om 29 3,.f),(Oz 30 2 1,.f),(Oq 31 6 true 30,.f),(Oa 32 (.call 61 [Tm 31]),.s),(Oa 33 (.build (.agg [.p (.str []),.tight [],.p (.int .i64 0),.p (.bool false),.p (.bool false),.tight [],.tight [],.p (.int .i64 0)]) [(0,1,(Tm 28)),(1,1,(Tm 29)),(2,6,(Tm 32))]),.f),(Oy 8 2 33,.f)]) (.ret))))⟩
theorem low35 : zi Tryz.prog gl0 35 = some lf35 := Go.Abs.lowF (by kernel_rfl)
def lf39 : LFunc := ⟨4,[.slot 2],.seq (.region [Oa 1 (.newv 1 24 (Tm 0)),Oa 2 (.mov (.cst (.p .nilf)))]) (.seq (.region [Oa 3 (.mkf 67 [Tm 1]),Om 2 3]) (.ret))⟩
theorem low39 : zi Tryz.prog gl0 39 = some lf39 := Go.Abs.lowF (by kernel_rfl)
def lf42 : LFunc := ⟨9,[.cell 2 4 true],.seq (.region [Oa 2 (.newv 4 76 (.cst Zp))]) (.seq (.region [Oa 3 (.call 43 [.cst (.p (.int .i64 1)),.cst (.p (.int .i64 1))]),Om 4 0,Oa 5 (.build (.agg [.p (.bool false),.tight [],.tight [],.p (.int .i64 0)]) [(0,3,(Tm 3)),(3,1,(Tm 4))]),Oa 6 (.buildSl 4 93 (.agg [.p (.bool false),.tight [],.tight [],.p (.int .i64 0)]) 1 [(0,(Tm 5))]),Oa 7 (.call 53 []),Oa 8 (.build Zp [(0,1,(Tm 6)),(1,3,(Tm 7))]),Oy 4 2 8]) (.ret))⟩
theorem low42 : zi Tryz.prog gl0 42 = some lf42 := Go.Abs.lowF (by kernel_rfl)
def lf47 : LFunc := ⟨4,[.slot 2],.seq (.region [Oa 1 (.newv 1 30 (Tm 0)),Oa 2 (.mov (.cst (.p .nilf)))]) (.seq (.region [Oa 3 (.mkf 80 [Tm 1]),Om 2 3]) (.ret))⟩
theorem low47 : zi Tryz.prog gl0 47 = some lf47 := Go.Abs.lowF (by kernel_rfl)
def lf48_B0 : LCode := .block 0 (.loop (.seq (.region [Oa 18 (.bin .lss (Tm 17) (Tm 16))]) (.seq (.cond (Tm 18) (.skip) (.exit 0)) (.seq (.block 1 (.seq (.region [Om 19 17,Oa 20 (.iadr 6 (Tm 15) (Tm 17)),Oq 21 6 true 20,Oa 8 (.newv 6 35 (.cst (.agg [.p (.int .i64 0),.p (.bool false),.p (.bool false),.tight [],.tight [],.p (.int .i64 0)]))),Om 7 19,Oy 6 8 21]) (.seq (.region [Om 22 1,Om 23 7,Oa 24 (.iadr 6 (Tm 22) (Tm 23)),Oq 25 6 true 24,Oa 9 (.newv 6 35 (.cst (.agg [.p (.int .i64 0),.p (.bool false),.p (.bool false),.tight [],.tight [],.p (.int .i64 0)]))),Oy 6 9 25]) (.seq (.region [Om 26 2,Oq 27 6 true 8,Oq 28 6 true 9,Oa 29 (.callv (Tm 26) [Tm 27,Tm 28]),Oa 30 (.un .not (Tm 29))]) (.cond (Tm 30) (.seq (.region [Oa 6 (.mov Kg)]) (.ret)) (.skip)))))) (.region [Oa 31 (.bin .add (Tm 17) (Kz 1)),Om 17 31])))))
def lf48 : LFunc := ⟨32,[.slot 6],.seq (.region [Oa 6 (.mov Kg)]) (.seq (.seq (.region [Om 10 0,Oa 11 (.len (Tm 10)),Om 12 1,Oa 13 (.len (Tm 12)),Oa 14 (.bin .neq (Tm 11) (Tm 13))]) (.cond (Tm 14) (.seq (.region [Oa 6 (.mov Kg)]) (.ret)) (.skip))) (.seq (.seq (.region [Om 15 0,Oa 16 (.len (Tm 15)),Oa 17 (.mov (Kz 0))]) (lf48_B0)) (.seq (.region [Oa 6 (.mov Kt)]) (.ret))))⟩
theorem low48 : zi Tryz.prog gl0 48 = some lf48 := Go.Abs.lowF (by kernel_rfl)
def lf49 : LFunc := ⟨31,[.slot 4],.seq (.region [Oa 2 (.newv 6 35 (Tm 0)),Oa 3 (.newv 6 35 (Tm 1)),Oa 4 (.mov Kg)]) (.seq (.seq (.region [Oz 5 0 2,Oq 6 1 false 5,Oz 7 0 3,Oq 8 1 false 7,Oa 9 (.bin .neq (Tm 6) (Tm 8))]) (.cond (Tm 9) (.seq (.region [Oa 4 (.mov Kg)]) (.ret)) (.skip))) (.seq (.seq (.region [Oz 10 0 2,Oq 11 1 false 10]) (.block 0 (.seq (.region [Oa 13 (.bin .eql (Tm 11) (Kz 0)),Om 12 13]) (.cond (Tm 12) (.seq (.region [Oz 14 1 2,Oq 15 1 false 14,Oz 16 1 3,Oq 17 1 false 16,Oa 18 (.eqB false (Tm 15) (Tm 17)),Om 4 18]) (.ret)) (.seq (.region [Oa 20 (.bin .eql (Tm 11) (Kz 1)),Om 19 20]) (.cond (Tm 19) (.seq (.region [Oz 21 2 2,Oq 22 3 true 21,Oz 23 2 3,Oq 24 3 true 23,Oa 25 (.call 81 [Tm 22,Tm 24]),Om 4 25]) (.ret)) (.skip))))))) (.seq (.region [Oz 26 5 2,Oq 27 1 false 26,Oz 28 5 3,Oq 29 1 false 28,Oa 30 (.bin .eql (Tm 27) (Tm 29)),Om 4 30]) (.ret))))⟩
theorem low49 : zi Tryz.prog gl0 49 = some lf49 := Go.Abs.lowF (by kernel_rfl)
def lf54_B0 : LCode := .block 0 (.loop (.seq (.region [Oa 9 (.bin .lss (Tm 8) (Tm 7))]) (.seq (.cond (Tm 9) (.skip) (.exit 0)) (.seq (.block 1 (.seq (.region [Om 10 8,Om 5 10]) (.seq (.region [Om 11 1,Om 12 0,Om 13 5,Oa 14 (.iadr 7 (Tm 12) (Tm 13)),Oq 15 7 true 14,Oa 16 (.callv (Tm 11) [Tm 15])]) (.cond (Tm 16) (.seq (.region [Om 17 5,Om 4 17]) (.ret)) (.skip))))) (.region [Oa 18 (.bin .add (Tm 8) (Kz 1)),Om 8 18])))))
def lf54 : LFunc := ⟨19,[.slot 4],.seq (.region [Oa 4 (.mov (Kz 0))]) (.seq (.seq (.region [Om 6 0,Oa 7 (.len (Tm 6)),Oa 8 (.mov (Kz 0))]) (lf54_B0)) (.seq (.region [Oa 4 (.mov (Kz (-1)))]) (.ret)))⟩
theorem low54 : zi Tryz.prog gl0 54 = some lf54 := Go.Abs.lowF (by kernel_rfl)
def lf55 : LFunc := ⟨8,[.slot 3],.seq (.region [Oa 2 (.newv 7 58 (Tm 0)),Oa 3 (.mov Kg)]) (.seq (.region [Oz 4 0 2,Oq 5 1 false 4,Oq 6 1 false 1,Oa 7 (.call 48 [Tm 5,Tm 6,.cst (.p (.clo 49 []))]),Om 3 7]) (.ret))⟩
theorem low55 : zi Tryz.prog gl0 55 = some lf55 := Go.Abs.lowF (by kernel_rfl)
def lf56_B0 : LCode := .block 0 (.loop (.block 1 (.seq (.region [Om 21 2,Om 22 1,Oa 23 (.bin .sub (Tm 21) (Tm 22)),Om 12 23]) (.seq (.seq (.region [Om 24 12,Oa 25 (.bin .leq (Tm 24) (Kz 12))]) (.cond (Tm 25) (.seq (.region [Om 26 0,Om 27 1,Om 28 2,Om 29 4,Oa 30 (.call 91 [Tm 26,Tm 27,Tm 28,Tm 29])]) (.ret)) (.skip))) (.seq (.seq (.region [Om 31 3,Oa 32 (.bin .eql (Tm 31) (Kz 0))]) (.cond (Tm 32) (.seq (.region [Om 33 0,Om 34 1,Om 35 2,Om 36 4,Oa 37 (.call 92 [Tm 33,Tm 34,Tm 35,Tm 36])]) (.ret)) (.skip))) (.seq (.seq (.region [Om 38 10,Oa 39 (.un .not (Tm 38))]) (.cond (Tm 39) (.seq (.region [Om 40 0,Om 41 1,Om 42 2,Om 43 4,Oa 44 (.call 93 [Tm 40,Tm 41,Tm 42,Tm 43])]) (.region [Om 45 3,Oa 46 (.bin .sub (Tm 45) (Kz 1)),Om 3 46])) (.skip))) (.seq (.region [Om 48 0,Om 49 1,Om 50 2,Om 51 4,Oa 52 (.call 94 [Tm 48,Tm 49,Tm 50,Tm 51]),Om 47 52,Ox 53 47 0,Ox 54 47 1,Om 13 53,Om 14 54]) (.seq (.seq (.region [Om 55 14,Oa 56 (.bin .eql (Tm 55) (Kz 2))]) (.cond (Tm 56) (.seq (.region [Om 57 0,Om 58 1,Om 59 2,Om 60 4,Oa 61 (.call 95 [Tm 57,Tm 58,Tm 59,Tm 60])]) (.seq (.region [Om 62 2,Oa 63 (.bin .sub (Tm 62) (Kz 1)),Om 64 13,Om 65 1,Oa 66 (.bin .sub (Tm 64) (Tm 65)),Oa 67 (.bin .sub (Tm 63) (Tm 66)),Om 13 67]) (.region [Oa 14 (.mov (Kz 1))]))) (.skip))) (.seq (.seq (.region [Om 68 10,Om 69 68,Oj 70 69 11,Ot 71 69 70,Om 72 71,Oj 73 72 14,Oc 74 72 (.bin .eql (Tm 73) (Kz 1)),Ot 75 72 74]) (.cond (Tm 75) (.seq (.region [Om 76 0,Om 77 1,Om 78 2,Om 79 4,Oa 80 (.call 96 [Tm 76,Tm 77,Tm 78,Tm 79])]) (.cond (Tm 80) (.ret) (.skip))) (.skip))) (.seq (.seq (.regionD [Om 81 1,Oa 82 (.bin .gtr (Tm 81) (Kz 0)),Om 83 82,Oj 84 83 4,Oj 85 83 0,Oj 86 83 1,Oc 87 83 (.bin .sub (Tm 86) (Kz 1)),Oc 88 83 (.iadr 8 (Tm 85) (Tm 87)),Oc 89 83 (.load 8 true (Tm 88)),Oj 90 83 0,Oj 91 83 13,Oc 92 83 (.iadr 8 (Tm 90) (Tm 91)),Oc 93 83 (.load 8 true (Tm 92)),Oc 94 83 (.callv (Tm 84) [Tm 89,Tm 93]),Oc 95 83 (.bin .lss (Tm 94) (Kz 0)),Oc 96 83 (.un .not (Tm 95)),Ot 97 83 96]) (.cond (Tm 97) (.seq (.region [Om 98 0,Om 99 1,Om 100 2,Om
 101 13,Om 102 4,Oa 103 (.call 97 [Tm 98,Tm 99,Tm 100,Tm 101,Tm 102]),Om 15 103]) (.seq (.region [Om 104 15,Om 1 104]) (.exit 1))) (.skip))) (.seq (.region [Om 106 0,Om 107 1,Om 108 2,Om 109 13,Om 110 4,Oa 111 (.call 98 [Tm 106,Tm 107,Tm 108,Tm 109,Tm 110]),Om 105 111,Ox 112 105 0,Ox 113 105 1,Om 16 112,Om 17 113]) (.seq (.region [Om 114 17,Om 11 114]) (.seq (.region [Om 115 16,Om 116 1,Oa 117 (.bin .sub (Tm 115) (Tm 116)),Om 118 2,Om 119 16,Oa 120 (.bin .sub (Tm 118) (Tm 119)),Om 18 117,Om 19 120]) (.seq (.region [Om 121 12,Oa 122 (.bin .quo (Tm 121) (Kz 8)),Om 20 122]) (.seq (.region [Om 123 18,Om 124 19,Oa 125 (.bin .lss (Tm 123) (Tm 124))]) (.cond (Tm 125) (.seq (.region [Om 126 18,Om 127 20,Oa 128 (.bin .geq (Tm 126) (Tm 127)),Om 10 128]) (.seq (.region [Om 129 0,Om 130 1,Om 131 16,Om 132 3,Om 133 4,Oa 134 (.call 56 [Tm 129,Tm 130,Tm 131,Tm 132,Tm 133])]) (.region [Om 135 16,Oa 136 (.bin .add (Tm 135) (Kz 1)),Om 1 136]))) (.seq (.region [Om 137 19,Om 138 20,Oa 139 (.bin .geq (Tm 137) (Tm 138)),Om 10 139]) (.seq (.region [Om 140 0,Om 141 16,Oa 142 (.bin .add (Tm 141) (Kz 1)),Om 143 2,Om 144 3,Om 145 4,Oa 146 (.call 56 [Tm 140,Tm 142,Tm 143,Tm 144,Tm 145])]) (.region [Om 147 16,Om 2 147])))))))))))))))))))
def lf56 : LFunc := ⟨148,[],.seq (.region [Oa 10 (.mov Kt)]) (.seq (.region [Oa 11 (.mov Kt)]) (lf56_B0))⟩
theorem low56 : zi Tryz.prog gl0 56 = some lf56 := Go.Abs.lowF (by kernel_rfl)
def lf57 : LFunc := ⟨8,[.slot 2],.seq (.region [Oa 2 (.mov (Kz 0))]) (.seq (.cond Kg (.seq (.region [Om 3 0,Oa 4 (.conv (.toInt .u32) (Tm 3)),Oa 5 (.call 99 [Tm 4]),Om 2 5]) (.ret)) (.skip)) (.seq (.region [Om 6 0,Oa 7 (.call 100 [Tm 6]),Om 2 7]) (.ret)))⟩
theorem low57 : zi Tryz.prog gl0 57 = some lf57 := Go.Abs.lowF (by kernel_rfl)
def lf58 : LFunc := ⟨6,[.slot 2],.seq (.region [Oa 2 (.mov Kg)]) (.seq (.region [Om 3 0,Om 4 0,Oa 5 (.bin .neq (Tm 3) (Tm 4)),Om 2 5]) (.ret))⟩
theorem low58 : zi Tryz.prog gl0 58 = some lf58 := Go.Abs.lowF (by kernel_rfl)
def lf59 : LFunc := ⟨8,[.slot 2],.seq (.region [Oa 2 (.mov (.cst (.tight [])))]) (.seq (.seq (.region [Om 3 0,Oa 4 (.eqS false (Tm 3) (.cst (.tight [])))]) (.cond (Tm 4) (.seq (.region [Oa 2 (.mov (.cst (.tight [])))]) (.ret)) (.skip))) (.seq (.region [Oa 5 (.buildSl 7 58 (.agg [.tight [],.p (.int .i64 0),.p (.bool false),.p (.bool false),.tight [],.tight [],.p (.int .i64 0)]) 0 []),Om 6 0,Oa 7 (.app 7 104 58 (Tm 5) (Tm 6)),Om 2 7]) (.ret)))⟩
theorem low59 : zi Tryz.prog gl0 59 = some lf59 := Go.Abs.lowF (by kernel_rfl)
def lf60_B0 : LCode := .block 0 (.loop (.seq (.region [Oa 10 (.bin .lss (Tm 9) (Tm 8))]) (.seq (.cond (Tm 10) (.skip) (.exit 0)) (.seq (.block 1 (.seq (.region [Om 11 9,Om 4 11]) (.region [Om 12 3,Om 13 4,Om 14 3,Om 15 4,Oa 16 (.iadr 6 (Tm 14) (Tm 15)),Oq 17 6 true 16,Oa 18 (.call 61 [Tm 17]),Oa 19 (.iadr 6 (Tm 12) (Tm 13)),Oy 6 19 18]))) (.region [Oa 20 (.bin .add (Tm 9) (Kz 1)),Om 9 20])))))
def lf60 : LFunc := ⟨22,[.slot 2],.seq (.region [Oa 2 (.mov (.cst (.tight [])))]) (.seq (.region [Om 5 0,Oa 6 (.call 101 [Tm 5]),Om 3 6]) (.seq (.seq (.region [Om 7 3,Oa 8 (.len (Tm 7)),Oa 9 (.mov (Kz 0))]) (lf60_B0)) (.seq (.region [Om 21 3,Om 2 21]) (.ret))))⟩
theorem low60 : zi Tryz.prog gl0 60 = some lf60 := Go.Abs.lowF (by kernel_rfl)
def lf61 : LFunc := ⟨8,[.cell 2 6 true],.seq (.region [Oa 1 (.newv 6 35 (Tm 0)),Oa 2 (.newv 6 35 (.cst (.agg [.p (.int .i64 0),.p (.bool false),.p (.bool false),.tight [],.tight [],.p (.int .i64 0)])))]) (.seq (.region [Oz 3 2 1,Oq 4 3 true 3,Oa 5 (.call 75 [Tm 4]),Oz 6 2 1,Oy 3 6 5]) (.seq (.region [Oq 7 6 true 1,Oy 6 2 7]) (.ret)))⟩
theorem low61 : zi Tryz.prog gl0 61 = some lf61 := Go.Abs.lowF (by kernel_rfl)
def lf101 : LFunc := ⟨8,[.slot 2],.seq (.region [Oa 2 (.mov (.cst (.tight [])))]) (.seq (.seq (.region [Om 3 0,Oa 4 (.eqS false (Tm 3) (.cst (.tight [])))]) (.cond (Tm 4) (.seq (.region [Oa 2 (.mov (.cst (.tight [])))]) (.ret)) (.skip))) (.seq (.region [Oa 5 (.buildSl 6 35 (.agg [.p (.int .i64 0),.p (.bool false),.p (.bool false),.tight [],.tight [],.p (.int .i64 0)]) 0 []),Om 6 0,Oa 7 (.app 6 80 35 (Tm 5) (Tm 6)),Om 2 7]) (.ret)))⟩
theorem low101 : zi Tryz.prog gl0 101 = some lf101 := Go.Abs.lowF (by kernel_rfl)
def lf91_B0 : LCode := .block 2 (.loop (.seq (.seq (.regionD [Om 18 9,Om 19 1,Oa 20 (.bin .gtr (Tm 18) (Tm 19)),Om 21 20,Oj 22 21 3,Oj 23 21 0,Oj 24 21 9,Oc 25 21 (.iadr 8 (Tm 23) (Tm 24)),Oc 26 21 (.load 8 true (Tm 25)),Oj 27 21 0,Oj 28 21 9,Oc 29 21 (.bin .sub (Tm 28) (Kz 1)),Oc 30 21 (.iadr 8 (Tm 27) (Tm 29)),Oc 31 21 (.load 8 true (Tm 30)),Oc 32 21 (.callv (Tm 22) [Tm 26,Tm 31]),Oc 33 21 (.bin .lss (Tm 32) (Kz 0)),Ot 34 21 33]) (.cond (Tm 34) (.skip) (.exit 2))) (.seq (.block 3 (.regionW [(Om 37 0,.f),(Om 38 9,.f),(Om 39 0,.f),(Om 40 9,.f),(Oa 41 (.bin .sub (Tm 40) (Kz 1)),.f),(Om 42 0,.f),(Om 43 9,.f),(Oa 44 (.bin .sub (Tm 43) (Kz 1)),.f),(Oa 45 (.iadr 8 (Tm 42) (Tm 44)),.f),(Oq 46 8 true 45,.f),(Om 47 0,.f),(Om 48 9,.f),(Oa 49 (.iadr 8 (Tm 47) (Tm 48)),.f),(Oq 50 8 true 49,.f),(Oa 51 (.iadr 8 (Tm 37) (Tm 38)),.f),(Oy 8 51 46,.f),(Oa 52 (.iadr 8 (Tm 39) (Tm 41)),.f),(Oy 8 52 50,.f)])) (.region [Om 35 9,Oa 36 (.bin .sub (Tm 35) (Kz 1)),Om 9 36]))))
def lf91_B1 : LCode := .block 0 (.loop (.seq (.seq (.region [Om 12 8,Om 13 2,Oa 14 (.bin .lss (Tm 12) (Tm 13))]) (.cond (Tm 14) (.skip) (.exit 0))) (.seq (.block 1 (.seq (.region [Om 17 8,Om 9 17]) (lf91_B0))) (.region [Om 15 8,Oa 16 (.bin .add (Tm 15) (Kz 1)),Om 8 16]))))
def lf91 : LFunc := ⟨53,[],.seq (.region [Om 10 1,Oa 11 (.bin .add (Tm 10) (Kz 1)),Om 8 11]) (lf91_B1)⟩
theorem low91 : zi Tryz.prog gl0 91 = some lf91 := Go.Abs.lowF (by kernel_rfl)
def lf4_B0 : LCode := .block 0 (.loop (.seq (.seq (.region [Om 35 8,Om 36 0,Oa 37 (.len (Tm 36)),Oa 38 (.bin .lss (Tm 35) (Tm 37))]) (.cond (Tm 38) (.skip) (.exit 0))) (.seq (.block 1 (.seq (.region [Om 41 5,Om 42 8,Oa 43 (.bin .mul (Kz 2) (Tm 42)),Oa 44 (.buildSl 1 9 (.p (.str [])) 2 [(0,(.cst (.p (.str [103])))),(1,(.cst (.p (.str [102]))))]),Om 45 8,Oa 46 (.bin .rem (Tm 45) (Kz 2)),Oa 47 (.iadr 1 (Tm 44) (Tm 46)),Oq 48 1 false 47,Om 49 8,Oa 50 (.bin .mul (Kz 2) (Tm 49)),Oa 51 (.bin .add (Tm 50) (Kz 1)),Oa 52 (.buildSl 1 3 (.p (.int .i64 0)) 1 [(0,(Tm 51))]),Oa 53 (.build (.agg [.p (.int .i64 0),.p (.str []),.tight []]) [(0,1,(Tm 43)),(1,1,(Tm 48)),(2,1,(Tm 52))]),Oa 54 (.buildSl 3 26 (.agg [.p (.int .i64 0),.p (.str []),.tight []]) 1 [(0,(Tm 53))]),Oa 55 (.app 3 48 26 (Tm 41) (Tm 54)),Om 5 55]) (.seq (.region [Om 56 0,Om 57 8,Oa 58 (.iadr 1 (Tm 56) (Tm 57)),Oq 59 1 false 58,Oa 60 (.call 7 [Tm 59,.cst (.p (.int .i64 4))]),Om 9 60]) (.seq (.region [Om 61 1,Om 62 9,Om 63 1,Oa 64 (.len (Tm 63)),Oa 65 (.minmax true (Tm 64) (Kz 1)),Oa 66 (.bin .rem (Tm 62) (Tm 65)),Oa 67 (.iadr 1 (Tm 61) (Tm 66)),Oq 68 1 false 67,Oa 69 (.call 7 [Tm 68,.cst (.p (.int .i64 3))]),Om 70 8,Oa 71 (.bin .rem (Tm 70) (Kz 2)),Oa 72 (.bin .mul (Tm 71) (Kz 10)),Oa 73 (.bin .add (Tm 69) (Tm 72)),Om 10 73]) (.seq (.region [Om 74 6,Om 75 8,Oa 76 (.bin .mul (Kz 2) (Tm 75)),Om 77 10,Oa 78 (.call 8 [.cst (.p (.int .i64 1)),Tm 77]),Oa 79 (.build (.agg [.p (.int .i64 0),.p (.int .i64 0),.p (.bool false),.p (.bool false),.tight [],.tight [],.p (.int .i64 0)]) [(0,1,(Tm 76)),(1,6,(Tm 78))]),Om 80 8,Oa 81 (.bin .mul (Kz 2) (Tm 80)),Oa 82 (.bin .add (Tm 81) (Kz 1)),Om 83 9,Oa 84 (.call 8 [.cst (.p (.int .i64 2)),Tm 83]),Oa 85 (.build (.agg [.p (.int .i64 0),.p (.int .i64 0),.p (.bool false),.p (.bool false),.tight [],.tight [],.p (.int .i64 0)]) [(0,1,(Tm 82)),(1,6,(Tm 84))]),Oa 86 (.buildSl 7 38 (.agg [.p (.int .i64 0),.p (.int .i64 0),.p (.bool false),.p (.bool false),.tight [],.tight [],.p (.int .i64 0)]) 2 [(0,(Tm 79)),(1,(Tm
 85))]),Oa 87 (.app 7 88 38 (Tm 74) (Tm 86)),Om 6 87]) (.region [Om 88 7,Om 89 8,Oa 90 (.bin .mul (Kz 2) (Tm 89)),Oa 91 (.build (.p (.agg [.int .i64 0,.int .i64 0])) [(0,1,(Tm 90)),(1,1,(Kz 1))]),Om 92 8,Oa 93 (.bin .mul (Kz 2) (Tm 92)),Oa 94 (.bin .add (Tm 93) (Kz 1)),Oa 95 (.build (.p (.agg [.int .i64 0,.int .i64 0])) [(0,1,(Tm 94)),(1,1,(Kz 2))]),Oa 96 (.buildSl 2 29 (.p (.agg [.int .i64 0,.int .i64 0])) 2 [(0,(Tm 91)),(1,(Tm 95))]),Oa 97 (.app 2 16 29 (Tm 88) (Tm 96)),Om 7 97])))))) (.region [Om 39 8,Oa 40 (.bin .add (Tm 39) (Kz 1)),Om 8 40]))))
def lf4_B1 : LCode := .block 6 (.loop (.seq (.seq (.region [Om 157 15,Om 158 14,Oa 159 (.bin .lss (Tm 157) (Tm 158))]) (.cond (Tm 159) (.skip) (.exit 6))) (.seq (.block 7 (.seq (.regionD [Om 162 11,Om 163 13,Oa 164 (.iadr 8 (Tm 162) (Tm 163)),Oz 165 1 164,Oq 166 1 false 165,Om 167 14,Oa 168 (.iadr 7 (Tm 166) (Tm 167)),Oz 169 0 168,Oq 170 1 false 169,Oa 171 (.iadr 6 (Tm 170) (Kz 0)),Oq 172 6 true 171,Om 173 11,Om 174 13,Oa 175 (.iadr 8 (Tm 173) (Tm 174)),Oz 176 1 175,Oq 177 1 false 176,Om 178 15,Oa 179 (.iadr 7 (Tm 177) (Tm 178)),Oz 180 0 179,Oq 181 1 false 180,Oa 182 (.iadr 6 (Tm 181) (Kz 0)),Oq 183 6 true 182,Oa 184 (.call 13 [Tm 172,Tm 183])]) (.cond (Tm 184) (.seq (.region [Oa 4 (.mov Kg)]) (.ret)) (.skip)))) (.region [Om 160 15,Oa 161 (.bin .add (Tm 160) (Kz 1)),Om 15 161]))))
def lf4_B2 : LCode := .block 4 (.loop (.seq (.seq (.region [Om 147 14,Om 148 11,Om 149 13,Oa 150 (.iadr 8 (Tm 148) (Tm 149)),Oz 151 1 150,Oq 152 1 false 151,Oa 153 (.len (Tm 152)),Oa 154 (.bin .lss (Tm 147) (Tm 153))]) (.cond (Tm 154) (.skip) (.exit 4))) (.seq (.block 5 (.seq (.region [Oa 15 (.mov (Kz 0))]) (lf4_B1))) (.region [Om 155 14,Oa 156 (.bin .add (Tm 155) (Kz 1)),Om 14 156]))))
def lf4_B3 : LCode := .block 2 (.loop (.seq (.seq (.region [Om 115 13,Om 116 11,Oa 117 (.len (Tm 116)),Oa 118 (.bin .lss (Tm 115) (Tm 117))]) (.cond (Tm 118) (.skip) (.exit 2))) (.seq (.block 3 (.seq (.seq (.regionD [Om 121 13,Oa 122 (.bin .gtr (Tm 121) (Kz 0)),Om 123 122,Oj 124 123 11,Oj 125 123 13,Oc 126 123 (.bin .sub (Tm 125) (Kz 1)),Oc 127 123 (.iadr 8 (Tm 124) (Tm 126)),Oc 128 123 (.fadr 0 (Tm 127)),Oc 129 123 (.load 1 false (Tm 128)),Oj 130 123 11,Oj 131 123 13,Oc 132 123 (.iadr 8 (Tm 130) (Tm 131)),Oc 133 123 (.fadr 0 (Tm 132)),Oc 134 123 (.load 1 false (Tm 133)),Oc 135 123 (.bin .geq (Tm 129) (Tm 134)),Ot 136 123 135,Om 137 136,Oo 138 137 11,Oo 139 137 13,Od 140 137 (.iadr 8 (Tm 138) (Tm 139)),Od 141 137 (.fadr 2 (Tm 140)),Od 142 137 (.load 6 true (Tm 141)),Od 143 137 (.call 8 [.cst (.p (.int .i64 1)),.cst (.p (.int .i64 0))]),Od 144 137 (.call 13 [Tm 142,Tm 143]),Od 145 137 (.un .not (Tm 144)),Ou 146 137 145]) (.cond (Tm 146) (.seq (.region [Oa 4 (.mov Kg)]) (.ret)) (.skip))) (.seq (.region [Oa 14 (.mov (Kz 0))]) (lf4_B2)))) (.region [Om 119 13,Oa 120 (.bin .add (Tm 119) (Kz 1)),Om 13 120]))))
def lf4_B4 : LCode := .block 8 (.loop (.seq (.seq (.region [Om 185 16,Om 186 5,Oa 187 (.len (Tm 186)),Oa 188 (.bin .lss (Tm 185) (Tm 187))]) (.cond (Tm 188) (.skip) (.exit 8))) (.seq (.block 9 (.seq (.region [Om 192 11,Oa 193 (.build (.agg [.tight []]) [(0,1,(Tm 192))]),Om 194 5,Om 195 16,Oa 196 (.iadr 3 (Tm 194) (Tm 195)),Oz 197 1 196,Oq 198 1 false 197,Oa 199 (.call 14 [Tm 193,Tm 198]),Om 191 199,Ox 200 191 0,Ox 201 191 1,Oa 17 (.newv 8 54 (.cst (.agg [.p (.str []),.tight [],.p (.int .i64 0),.p (.bool false),.p (.bool false),.tight [],.tight [],.p (.int .i64 0)]))),Oy 8 17 200,Om 18 201]) (.seq (.regionW [(Om 202 18,.f),(Oa 203 (.un .not (Tm 202)),.f),(Om 204 203,.f),(Od 205 204 (.load 8 true (Tm 17)),.s),(Oo 206 204 6,.f),(Oo 207 204 16,.f),(Od 208 204 (.bin .mul (Kz 2) (Tm 207)),.f),(Od 209 204 (.bin .add (Tm 208) (Kz 1)),.f),(Od 210 204 (.call 16 [Tm 206,Tm 209]),.s),(Od 211 204 (.buildSl 6 35 (.agg [.p (.int .i64 0),.p (.bool false),.p (.bool false),.tight [],.tight [],.p (.int .i64 0)]) 1 [(0,(Tm 210))]),.s),(Od 212 204 (.call 15 [Tm 205,Tm 211]),.f),(Oo 213 204 6,.f),(Oo 214 204 16,.f),(Od 215 204 (.bin .mul (Kz 2) (Tm 214)),.f),(Od 216 204 (.call 16 [Tm 213,Tm 215]),.f),(Od 217 204 (.call 13 [Tm 212,Tm 216]),.f),(Od 218 204 (.un .not (Tm 217)),.f),(Ou 219 204 218,.f)]) (.cond (Tm 219) (.seq (.region [Oa 4 (.mov Kg)]) (.ret)) (.skip))))) (.region [Om 189 16,Oa 190 (.bin .add (Tm 189) (Kz 1)),Om 16 190]))))
def lf4 : LFunc := ⟨221,[.slot 4],.seq (.region [Oa 4 (.mov Kg)]) (.seq (.seq (.region [Om 19 0,Oa 20 (.len (Tm 19)),Oa 21 (.bin .gtr (Tm 20) (Kz 10)),Om 22 21,Oo 23 22 1,Od 24 22 (.len (Tm 23)),Oo 25 22 0,Od 26 22 (.len (Tm 25)),Od 27 22 (.bin .lss (Tm 24) (Tm 26)),Ou 28 22 27,Om 29 28,Oo 30 29 1,Od 31 29 (.len (Tm 30)),Od 32 29 (.bin .gtr (Tm 31) (Kz 20)),Ou 33 29 32]) (.cond (Tm 33) (.seq (.region [Oa 34 (.call 6 []),Om 4 34]) (.ret)) (.skip))) (.seq (.region [Oa 5 (.mov (.cst (.tight [])))]) (.seq (.region [Oa 6 (.mov (.cst (.tight [])))]) (.seq (.region [Oa 7 (.mov (.cst (.tight [])))]) (.seq (.seq (.region [Oa 8 (.mov (Kz 0))]) (lf4_B0)) (.seq (.region [Om 99 5,Om 100 7,Om 101 6,Oa 102 (.call 12 [Tm 99,Tm 100,Tm 101]),Om 98 102,Ox 103 98 0,Ox 104 98 1,Om 11 103,Om 12 104]) (.seq (.seq (.region [Om 105 12,Oa 106 (.bin .neq (Tm 105) (Kz 0)),Om 107 106,Oo 108 107 11,Od 109 107 (.len (Tm 108)),Oo 110 107 0,Od 111 107 (.len (Tm 110)),Od 112 107 (.minmax false (Tm 111) (Kz 2)),Od 113 107 (.bin .neq (Tm 109) (Tm 112)),Ou 114 107 113]) (.cond (Tm 114) (.seq (.region [Oa 4 (.mov Kg)]) (.ret)) (.skip))) (.seq (.seq (.region [Oa 13 (.mov (Kz 0))]) (lf4_B3)) (.seq (.seq (.region [Oa 16 (.mov (Kz 0))]) (lf4_B4)) (.seq (.region [Oa 220 (.call 6 []),Om 4 220]) (.ret)))))))))))⟩
theorem low4 : zi Tryz.prog gl0 4 = some lf4 := Go.Abs.lowF (by kernel_rfl)
def lf6 : LFunc := ⟨190,[.slot 0],.seq (.region [Oa 0 (.mov Kg)]) (.seq (.region [Oa 21 (.buildSl 1 3 (.p (.int .i64 0)) 1 [(0,(Kz 5))]),Oa 22 (.build (.agg [.p (.int .i64 0),.p (.str []),.tight []]) [(0,1,(Kz 1)),(1,1,(.cst (.p (.str [102])))),(2,1,(Tm 21))]),Oa 23 (.buildSl 1 3 (.p (.int .i64 0)) 1 [(0,(Kz 6))]),Oa 24 (.build (.agg [.p (.int .i64 0),.p (.str []),.tight []]) [(0,1,(Kz 2)),(1,1,(.cst (.p (.str [102])))),(2,1,(Tm 23))]),Oa 25 (.buildSl 3 26 (.agg [.p (.int .i64 0),.p (.str []),.tight []]) 2 [(0,(Tm 22)),(1,(Tm 24))]),Om 1 25]) (.seq (.region [Oa 26 (.build (.p (.agg [.int .i64 0,.int .i64 0])) [(0,1,(Kz 1)),(1,1,(Kz 1))]),Oa 27 (.build (.p (.agg [.int .i64 0,.int .i64 0])) [(0,1,(Kz 2)),(1,1,(Kz 1))]),Oa 28 (.build (.p (.agg [.int .i64 0,.int .i64 0])) [(0,1,(Kz 5)),(1,1,(Kz 2))]),Oa 29 (.build (.p (.agg [.int .i64 0,.int .i64 0])) [(0,1,(Kz 6)),(1,1,(Kz 2))]),Oa 30 (.buildSl 2 29 (.p (.agg [.int .i64 0,.int .i64 0])) 4 [(0,(Tm 26)),(1,(Tm 27)),(2,(Tm 28)),(3,(Tm 29))]),Om 2 30]) (.seq (.region [Oa 31 (.call 19 [.cst (.p (.int .i64 1)),.cst (.p (.int .i64 1))]),Oa 32 (.build (.agg [.p (.int .i64 0),.p (.bool false),.p (.bool false),.tight [],.tight [],.p (.int .i64 0)]) [(0,1,(Kz 1)),(2,3,(Tm 31))]),Oa 33 (.call 19 [.cst (.p (.int .i64 2)),.cst (.p (.int .i64 1))]),Oa 34 (.build (.agg [.p (.int .i64 0),.p (.bool false),.p (.bool false),.tight [],.tight [],.p (.int .i64 0)]) [(0,1,(Kz 1)),(2,3,(Tm 33))]),Oa 3 (.newv 6 35 (.cst (.agg [.p (.int .i64 0),.p (.bool false),.p (.bool false),.tight [],.tight [],.p (.int .i64 0)]))),Oa 4 (.newv 6 35 (.cst (.agg [.p (.int .i64 0),.p (.bool false),.p (.bool false),.tight [],.tight [],.p (.int .i64 0)]))),Oy 6 3 32,Oy 6 4 34]) (.seq (.region [Oq 35 6 true 3,Oa 36 (.build (.agg [.p (.int .i64 0),.p (.int .i64 0),.p (.bool false),.p (.bool false),.tight [],.tight [],.p (.int .i64 0)]) [(0,1,(Kz 1)),(1,6,(Tm 35))]),Oq 37 6 true 4,Oa 38 (.build (.agg [.p (.int .i64 0),.p (.int .i64 0),.p (.bool false),.p (.bool false),.tight [],.tight
 [],.p (.int .i64 0)]) [(0,1,(Kz 2)),(1,6,(Tm 37))]),Oa 39 (.build (.agg [.p (.int .i64 0),.p (.bool false),.p (.bool false),.tight [],.tight [],.p (.int .i64 0)]) [(0,1,(Kz 2))]),Oa 40 (.build (.agg [.p (.int .i64 0),.p (.int .i64 0),.p (.bool false),.p (.bool false),.tight [],.tight [],.p (.int .i64 0)]) [(0,1,(Kz 5)),(1,6,(Tm 39))]),Oa 41 (.build (.agg [.p (.int .i64 0),.p (.bool false),.p (.bool false),.tight [],.tight [],.p (.int .i64 0)]) [(0,1,(Kz 2))]),Oa 42 (.build (.agg [.p (.int .i64 0),.p (.int .i64 0),.p (.bool false),.p (.bool false),.tight [],.tight [],.p (.int .i64 0)]) [(0,1,(Kz 6)),(1,6,(Tm 41))]),Oa 43 (.buildSl 7 38 (.agg [.p (.int .i64 0),.p (.int .i64 0),.p (.bool false),.p (.bool false),.tight [],.tight [],.p (.int .i64 0)]) 4 [(0,(Tm 36)),(1,(Tm 38)),(2,(Tm 40)),(3,(Tm 42))]),Om 5 43]) (.seq (.region [Om 45 1,Om 46 5,Oa 47 (.call 10 [Tm 45,Tm 46]),Om 44 47,Ox 48 44 0,Ox 49 44 1,Ox 50 44 2,Om 6 48,Om 7 49,Om 8 50]) (.seq (.regionD [Om 52 2,Om 53 1,Oa 54 (.iadr 3 (Tm 53) (Kz 0)),Oq 55 3 true 54,Om 56 1,Oa 57 (.iadr 3 (Tm 56) (Kz 1)),Oq 58 3 true 57,Oa 59 (.call 9 [Tm 52,Tm 55,Tm 58]),Om 51 59,Ox 60 51 0,Ox 61 51 1,Ox 62 51 2,Om 9 60,Om 10 61,Om 11 62]) (.seq (.region [Om 64 1,Om 65 2,Om 66 5,Oa 67 (.call 12 [Tm 64,Tm 65,Tm 66]),Om 63 67,Ox 68 63 0,Ox 69 63 1,Om 12 68,Om 13 69]) (.seq (.region [Om 70 5,Oa 71 (.iadr 7 (Tm 70) (Kz 3)),Oz 72 1 71,Oz 73 5 72,Ob (.store 1 (Tm 73) (Kz 1))]) (.seq (.region [Om 75 1,Om 76 2,Om 77 5,Oa 78 (.call 12 [Tm 75,Tm 76,Tm 77]),Om 74 78,Ox 79 74 0,Ox 80 74 1,Om 14 79,Om 15 80]) (.seq (.region [Oa 81 (.build (.agg [.p (.int .i64 0),.p (.bool false),.p (.bool false),.tight [],.tight [],.p (.int .i64 0)]) [(0,1,(Kz 2))]),Oa 82 (.build (.agg [.p (.int .i64 0),.p (.bool false),.p (.bool false),.tight [],.tight [],.p (.int .i64 0)]) [(0,1,(Kz 2)),(5,1,(Kz 2))]),Oa 83 (.build (.agg [.p (.int .i64 0),.p (.bool false),.p (.bool false),.tight [],.tight [],.p (.int .i64 0)]) [(0,1,(Kz 3)),(5,1,(Kz 1))]),Oa 84 (.buildSl 6 35
 (.agg [.p (.int .i64 0),.p (.bool false),.p (.bool false),.tight [],.tight [],.p (.int .i64 0)]) 3 [(0,(Tm 81)),(1,(Tm 82)),(2,(Tm 83))]),Oa 85 (.call 18 [.cst (.p (.int .i64 2)),Tm 84]),Oa 16 (.newv 6 35 (.cst (.agg [.p (.int .i64 0),.p (.bool false),.p (.bool false),.tight [],.tight [],.p (.int .i64 0)]))),Oy 6 16 85]) (.seq (.region [Oa 87 (.build (.p (.agg [.int .i64 0,.int .i64 0])) [(0,1,(Kz 1)),(1,1,(Kz 2))]),Oa 88 (.build (.p (.agg [.int .i64 0,.int .i64 0])) [(0,1,(Kz 3)),(1,1,(Kz 2))]),Oa 89 (.build (.p (.agg [.int .i64 0,.int .i64 0])) [(0,1,(Kz 3)),(1,1,(Kz 4))]),Oa 90 (.build (.p (.agg [.int .i64 0,.int .i64 0])) [(0,1,(Kz 2)),(1,1,(Kz 4))]),Oa 91 (.buildSl 2 67 (.p (.agg [.int .i64 0,.int .i64 0])) 4 [(0,(Tm 87)),(1,(Tm 88)),(2,(Tm 89)),(3,(Tm 90))]),Oa 92 (.call 17 [Tm 91,.cst (.p (.int .i64 1)),.cst (.p (.int .i64 4))]),Om 86 92,Ox 93 86 0,Ox 94 86 1,Om 17 93,Om 18 94]) (.seq (.region [Oa 96 (.call 17 [.cst (.tight []),.cst (.p (.int .i64 1)),.cst (.p (.int .i64 2))]),Om 95 96,Ox 97 95 0,Ox 98 95 1,Om 19 97,Om 20 98]) (.seq (.region [Om 99 8,Om 100 99,Oj 101 100 6,Oc 102 100 (.bin .eql (Tm 101) (Kz 0)),Ot 103 100 102,Om 104 103,Oj 105 104 7,Oc 106 104 (.bin .eql (Tm 105) (Kz 1)),Ot 107 104 106,Om 108 107,Oj 109 108 11,Oc 110 108 (.bin .eql (Tm 109) (Kz 0)),Ot 111 108 110,Om 112 111,Oj 113 112 9,Oc 114 112 (.len (Tm 113)),Oc 115 112 (.bin .eql (Tm 114) (Kz 2)),Ot 116 112 115,Om 117 116,Oj 118 117 10,Oc 119 117 (.len (Tm 118)),Oc 120 117 (.bin .eql (Tm 119) (Kz 0)),Ot 121 117 120,Om 122 121,Oj 123 122 9,Oc 124 122 (.iadr 8 (Tm 123) (Kz 0)),Oc 125 122 (.fadr 7 (Tm 124)),Oc 126 122 (.load 1 false (Tm 125)),Ot 127 122 126,Om 128 127,Oj 129 128 9,Oc 130 128 (.iadr 8 (Tm 129) (Kz 0)),Oc 131 128 (.fadr 0 (Tm 130)),Oc 132 128 (.fadr 0 (Tm 131)),Oc 133 128 (.load 1 false (Tm 132)),Oc 134 128 (.bin .eql (Tm 133) (Kz 5)),Ot 135 128 134,Om 136 135,Oj 137 136 9,Oc 138 136 (.iadr 8 (Tm 137) (Kz 1)),Oc 139 136 (.fadr 0 (Tm 138)),Oc 140 136 (.fadr 0 (Tm 139)),Oc 141
 136 (.load 1 false (Tm 140)),Oc 142 136 (.bin .eql (Tm 141) (Kz 3)),Ot 143 136 142,Om 144 143,Oj 145 144 13,Oc 146 144 (.bin .eql (Tm 145) (Kz 1)),Ot 147 144 146,Om 148 147,Oj 149 148 15,Oc 150 148 (.bin .eql (Tm 149) (Kz 0)),Ot 151 148 150,Om 152 151,Oj 153 152 14,Oc 154 152 (.len (Tm 153)),Oc 155 152 (.bin .eql (Tm 154) (Kz 1)),Ot 156 152 155,Om 157 156,Oj 158 157 14,Oc 159 157 (.iadr 8 (Tm 158) (Kz 0)),Oc 160 157 (.fadr 1 (Tm 159)),Oc 161 157 (.load 1 false (Tm 160)),Oc 162 157 (.len (Tm 161)),Oc 163 157 (.bin .eql (Tm 162) (Kz 2)),Ot 164 157 163,Om 165 164,Oc 166 165 (.fadr 5 (Tm 16)),Oc 167 165 (.load 1 false (Tm 166)),Oc 168 165 (.bin .eql (Tm 167) (Kz 1)),Ot 169 165 168,Om 170 169,Oj 171 170 18,Oc 172 170 (.bin .eql (Tm 171) (Kz 0)),Ot 173 170 172,Om 174 173,Oj 175 174 17,Oc 176 174 (.len (Tm 175)),Oc 177 174 (.bin .eql (Tm 176) (Kz 2)),Ot 178 174 177,Om 179 178,Oj 180 179 17,Oc 181 179 (.iadr 2 (Tm 180) (Kz 1)),Oc 182 179 (.load 2 true (Tm 181)),Oc 183 179 (.build (.p (.agg [.int .i64 0,.int .i64 0])) [(0,1,(Kz 2)),(1,1,(Kz 4))]),Oc 184 179 (.eqA false [.i,.i] (Tm 182) (Tm 183)),Ot 185 179 184,Om 186 185,Oj 187 186 20,Oc 188 186 (.bin .eql (Tm 187) (Kz 5)),Ot 189 186 188,Om 0 189]) (.ret))))))))))))))⟩
theorem low6 : zi Tryz.prog gl0 6 = some lf6 := Go.Abs.lowF (by kernel_rfl)
def lf8 : LFunc := ⟨20,[.cell 4 6 true],.seq (.region [Oa 4 (.newv 6 35 (.cst (.agg [.p (.int .i64 0),.p (.bool false),.p (.bool false),.tight [],.tight [],.p (.int .i64 0)])))]) (.seq (.seq (.region [Om 5 0]) (.block 0 (.seq (.region [Oa 7 (.bin .eql (Tm 5) (Kz 0)),Om 6 7]) (.cond (Tm 6) (.seq (.region [Om 8 1,Oa 9 (.bin .eql (Tm 8) (Kz 1)),Oa 10 (.build (.agg [.p (.int .i64 0),.p (.bool false),.p (.bool false),.tight [],.tight [],.p (.int .i64 0)]) [(1,1,(Tm 9))]),Oy 6 4 10]) (.ret)) (.seq (.region [Oa 12 (.bin .eql (Tm 5) (Kz 1)),Om 11 12]) (.cond (Tm 11) (.seq (.region [Om 13 0,Om 14 1,Oa 15 (.call 19 [Tm 14,.cst (.p (.int .i64 1))]),Oa 16 (.build (.agg [.p (.int .i64 0),.p (.bool false),.p (.bool false),.tight [],.tight [],.p (.int .i64 0)]) [(0,1,(Tm 13)),(2,3,(Tm 15))]),Oy 6 4 16]) (.ret)) (.skip))))))) (.seq (.region [Om 17 0,Om 18 1,Oa 19 (.build (.agg [.p (.int .i64 0),.p (.bool false),.p (.bool false),.tight [],.tight [],.p (.int .i64 0)]) [(0,1,(Tm 17)),(5,1,(Tm 18))]),Oy 6 4 19]) (.ret)))⟩
theorem low8 : zi Tryz.prog gl0 8 = some lf8 := Go.Abs.lowF (by kernel_rfl)
def lf16_B0 : LCode := .block 0 (.loop (.seq (.seq (.region [Om 6 5,Om 7 0,Oa 8 (.len (Tm 7)),Oa 9 (.bin .lss (Tm 6) (Tm 8))]) (.cond (Tm 9) (.skip) (.exit 0))) (.seq (.block 1 (.seq (.region [Om 12 0,Om 13 5,Oa 14 (.iadr 7 (Tm 12) (Tm 13)),Oz 15 0 14,Oq 16 1 false 15,Om 17 1,Oa 18 (.bin .eql (Tm 16) (Tm 17))]) (.cond (Tm 18) (.seq (.region [Om 19 0,Om 20 5,Oa 21 (.iadr 7 (Tm 19) (Tm 20)),Oz 22 1 21,Oq 23 6 true 22,Oy 6 4 23]) (.ret)) (.skip)))) (.region [Om 10 5,Oa 11 (.bin .add (Tm 10) (Kz 1)),Om 5 11]))))
def lf16 : LFunc := ⟨25,[.cell 4 6 true],.seq (.region [Oa 4 (.newv 6 35 (.cst (.agg [.p (.int .i64 0),.p (.bool false),.p (.bool false),.tight [],.tight [],.p (.int .i64 0)])))]) (.seq (.seq (.region [Oa 5 (.mov (Kz 0))]) (lf16_B0)) (.seq (.region [Oa 24 (.build (.agg [.p (.int .i64 0),.p (.bool false),.p (.bool false),.tight [],.tight [],.p (.int .i64 0)]) []),Oy 6 4 24]) (.ret)))⟩
theorem low16 : zi Tryz.prog gl0 16 = some lf16 := Go.Abs.lowF (by kernel_rfl)
def lf13 : LFunc := ⟨31,[.slot 4],.seq (.region [Oa 2 (.newv 6 35 (Tm 0)),Oa 3 (.newv 6 35 (Tm 1)),Oa 4 (.mov Kg)]) (.seq (.seq (.region [Oz 5 0 2,Oq 6 1 false 5,Oz 7 0 3,Oq 8 1 false 7,Oa 9 (.bin .neq (Tm 6) (Tm 8))]) (.cond (Tm 9) (.seq (.region [Oa 4 (.mov Kg)]) (.ret)) (.skip))) (.seq (.seq (.region [Oz 10 0 2,Oq 11 1 false 10]) (.block 0 (.seq (.region [Oa 13 (.bin .eql (Tm 11) (Kz 0)),Om 12 13]) (.cond (Tm 12) (.seq (.region [Oz 14 1 2,Oq 15 1 false 14,Oz 16 1 3,Oq 17 1 false 16,Oa 18 (.eqB false (Tm 15) (Tm 17)),Om 4 18]) (.ret)) (.seq (.region [Oa 20 (.bin .eql (Tm 11) (Kz 1)),Om 19 20]) (.cond (Tm 19) (.seq (.region [Oz 21 2 2,Oq 22 3 true 21,Oz 23 2 3,Oq 24 3 true 23,Oa 25 (.call 36 [Tm 22,Tm 24]),Om 4 25]) (.ret)) (.skip))))))) (.seq (.region [Oz 26 5 2,Oq 27 1 false 26,Oz 28 5 3,Oq 29 1 false 28,Oa 30 (.bin .eql (Tm 27) (Tm 29)),Om 4 30]) (.ret))))⟩
theorem low13 : zi Tryz.prog gl0 13 = some lf13 := Go.Abs.lowF (by kernel_rfl)
def lf14_B0 : LCode := .block 0 (.loop (.seq (.seq (.region [Om 7 6,Oz 8 0 2,Oq 9 1 false 8,Oa 10 (.len (Tm 9)),Oa 11 (.bin .lss (Tm 7) (Tm 10))]) (.cond (Tm 11) (.skip) (.exit 0))) (.seq (.block 1 (.seq (.region [Oz 14 0 2,Oq 15 1 false 14,Om 16 6,Oa 17 (.iadr 8 (Tm 15) (Tm 16)),Oz 18 0 17,Oq 19 1 false 18,Om 20 1,Oa 21 (.bin .eql (Tm 19) (Tm 20))]) (.cond (Tm 21) (.seq (.region [Oz 22 0 2,Oq 23 1 false 22,Om 24 6,Oa 25 (.iadr 8 (Tm 23) (Tm 24)),Oq 26 8 true 25,Oy 8 4 26,Oa 5 (.mov Kt)]) (.ret)) (.skip)))) (.region [Om 12 6,Oa 13 (.bin .add (Tm 12) (Kz 1)),Om 6 13]))))
def lf14 : LFunc := ⟨28,[.cell 4 8 true,.slot 5],.seq (.region [Oa 2 (.newv 1 62 (Tm 0)),Oa 4 (.newv 8 54 (.cst (.agg [.p (.str []),.tight [],.p (.int .i64 0),.p (.bool false),.p (.bool false),.tight [],.tight [],.p (.int .i64 0)]))),Oa 5 (.mov Kg)]) (.seq (.seq (.region [Oa 6 (.mov (Kz 0))]) (lf14_B0)) (.seq (.region [Oa 27 (.build (.agg [.p (.str []),.tight [],.p (.int .i64 0),.p (.bool false),.p (.bool false),.tight [],.tight [],.p (.int .i64 0)]) []),Oy 8 4 27,Oa 5 (.mov Kg)]) (.ret)))⟩
theorem low14 : zi Tryz.prog gl0 14 = some lf14 := Go.Abs.lowF (by kernel_rfl)
def lf15_B0 : LCode := .block 2 (.loop (.seq (.seq (.region [Om 27 8,Om 28 1,Oa 29 (.len (Tm 28)),Oa 30 (.bin .lss (Tm 27) (Tm 29)),Om 31 30,Oj 32 31 7,Ot 33 31 32]) (.cond (Tm 33) (.skip) (.exit 2))) (.seq (.block 3 (.regionD [Oz 36 0 6,Oq 37 1 false 36,Om 38 8,Oa 39 (.iadr 6 (Tm 37) (Tm 38)),Oq 40 6 true 39,Om 41 1,Om 42 8,Oa 43 (.iadr 6 (Tm 41) (Tm 42)),Oq 44 6 true 43,Oa 45 (.call 13 [Tm 40,Tm 44]),Om 7 45])) (.region [Om 34 8,Oa 35 (.bin .add (Tm 34) (Kz 1)),Om 8 35]))))
def lf15_B1 : LCode := .block 0 (.loop (.seq (.seq (.region [Om 9 5,Oz 10 1 2,Oq 11 1 false 10,Oa 12 (.len (Tm 11)),Oa 13 (.bin .lss (Tm 9) (Tm 12))]) (.cond (Tm 13) (.skip) (.exit 0))) (.seq (.block 1 (.seq (.region [Oz 16 1 2,Oq 17 1 false 16,Om 18 5,Oa 19 (.iadr 7 (Tm 17) (Tm 18)),Oq 20 7 true 19,Oa 6 (.newv 7 58 (.cst (.agg [.tight [],.p (.int .i64 0),.p (.bool false),.p (.bool false),.tight [],.tight [],.p (.int .i64 0)]))),Oy 7 6 20]) (.seq (.region [Oz 21 0 6,Oq 22 1 false 21,Oa 23 (.len (Tm 22)),Om 24 1,Oa 25 (.len (Tm 24)),Oa 26 (.bin .eql (Tm 23) (Tm 25)),Om 7 26]) (.seq (.seq (.region [Oa 8 (.mov (Kz 0))]) (lf15_B0)) (.seq (.region [Om 46 7]) (.cond (Tm 46) (.seq (.region [Oz 47 1 6,Oq 48 6 true 47,Oy 6 4 48]) (.ret)) (.skip))))))) (.region [Om 14 5,Oa 15 (.bin .add (Tm 14) (Kz 1)),Om 5 15]))))
def lf15 : LFunc := ⟨51,[.cell 4 6 true],.seq (.region [Oa 2 (.newv 8 54 (Tm 0)),Oa 4 (.newv 6 35 (.cst (.agg [.p (.int .i64 0),.p (.bool false),.p (.bool false),.tight [],.tight [],.p (.int .i64 0)])))]) (.seq (.seq (.region [Oa 5 (.mov (Kz 0))]) (lf15_B1)) (.seq (.region [Oz 49 2 2,Oq 50 6 true 49,Oy 6 4 50]) (.ret)))⟩
theorem low15 : zi Tryz.prog gl0 15 = some lf15 := Go.Abs.lowF (by kernel_rfl)
end Go.Proofs.YtgbjjikaenlkmaaGreat

namespace Go.Abs
def PVal.isAgg : PVal → Bool
 | .agg _ => true
 | _ => false
end Go.Abs
namespace Go.Proofs.YtgbjjikaenlkmaaGreat
open Go Go.Abs Go.RowKit Go.Shelf
attribute [local go_sem] Oper.semAt_some
set_option maxRecDepth 100000 in
set_option maxHeartbeats 2000000 in
theorem bG_walk {α : Type} {encs : α → Array Value} (f : Nat → α) (cv : Nat → Nat → Value) (m l Bs b off len cap : Nat) (pr : Prot) (hlen : len ≤ 1000000000) (hen : ∀ k, k < len → encs (f k) = #[.int .i64 k, .agg #[cv k 0, cv k 1, cv k 2, cv k 3, cv k 4, cv k 5, cv k 6]])
  (hp : pr Bs 0 = some (.slice (some ⟨b, off, none⟩) len cap)) (hv : ∀ k, k < len → ∀ j, j < 7 → pr b (off + k * 7 + j) = some (cv k j)) (J Jx : List α → World → Prop)
  (hY : ∀ pre x W, J pre W → pre.length < len → YieldAt Fence.wide (m - 1) Tryz.prog l (encs x) W fun e W' =>
   (e = .returned (.bool true) ∧ J (pre ++ [x]) W' ∧ KeepsProt pr W W') ∨ (e = .returned (.bool false) ∧ Jx (pre ++ [x]) W'))
  (W : World) (hc : ∀ b o v, pr b o = some v → W.cell? ⟨b, o, none⟩ = some v) (h0 : J [] W) :
  CallsIn Fence.wide m Tryz.prog 80 #[.func (.yield l) #[] #[], .pointer (some ⟨Bs, 0, none⟩)] W fun e W' => (∃ v, e = .returned v) ∧
   ((∃ ys, ys = upto (fun j => f (len - 1 - j)) len ∧ J ys W') ∨ (∃ pre, True ∧ Jx pre W')) := by
 refine callsIn_of_wp Tryz.func80 rfl trivial ?_ rfl
 simp only [Tryz.ntmps80, List.size_toArray, List.length_cons, List.length_nil, Nat.reduceAdd, Nat.reduceSub, Array.replicate_succ, Array.replicate_zero, List.push_toArray, List.append_toArray, List.nil_append, List.cons_append]
 have hw0 : IntKind.i64.wrap ((len : Int) - 1) = (len : Int) - 1 := IntWalk.i64_in _ (by omega)
 have hBs := hc _ _ _ hp
 gi_wp2
 gi_loopw [3] (fun i wr => ∃ j : Nat, j ≤ len ∧ i = .int .i64 ((len : Int) - 1 - j) ∧ J (upto (fun j => f (len - 1 - j)) j) wr ∧ (∀ b o v, pr b o = some v → wr.cell? ⟨b, o, none⟩ = some v))
  (fun i _ => (intOf i + 1).toNat)
 case atStart => exact ⟨0, Nat.zero_le _, by simp, h0, hc⟩
 case round =>
  obtain ⟨j, hj, rfl, hJs, hcs⟩ := hrel
  have hB := hcs _ _ _ hp
  by_cases hlt : j < len
  ·obtain ⟨k, hk⟩ : ∃ k : Nat, len - 1 - j = k := ⟨_, rfl⟩
   have hkI : (len : Int) - 1 - j = (k : Int) := by omega
   rw [hkI]
   obtain ⟨fn, tmps, assign, body, hy, hR⟩ := hY _ (f k) wr hJs (by rw [mG]; exact hlt)
   rw [hen k (by omega)] at hy
   have hc0 := hcs _ _ _ (hv k (by omega) 0 (by decide))
   have hc1 := hcs _ _ _ (hv k (by omega) 1 (by decide))
   have hc2 := hcs _ _ _ (hv k (by omega) 2 (by decide))
   have hc3 := hcs _ _ _ (hv k (by omega) 3 (by decide))
   have hc4 := hcs _ _ _ (hv k (by omega) 4 (by decide))
   have hc5 := hcs _ _ _ (hv k (by omega) 5 (by decide))
   have hc6 := hcs _ _ _ (hv k (by omega) 6 (by decide))
   rw [Nat.add_zero] at hc0
   have hw1 : IntKind.i64.wrap ((k : Int) - 1) = (k : Int) - 1 := IntWalk.i64_in _ (by omega)
   gi_wp2
   refine ⟨fun h => by simp [Fence.wide] at h, hR.mono ?_⟩
   rintro e W3 (⟨rfl, hJ3, hk3⟩ | ⟨rfl, hJx3⟩)
   ·have hc3 : ∀ b o v, pr b o = some v → W3.cell? ⟨b, o, none⟩ = some v := fun b o v h => hk3 _ _ _ h (hcs b o v h)
    gi_wp2
    go_roundw
    case rel => exact ⟨j + 1, by omega, by congr 1; omega, by rw [sT, hk]; exact hJ3, hc3⟩
    case measure => simp [intOf]
   ·gi_wp2
    refine bodyPost_ret (results_none rfl _ _ _) rfl ?_
    exact ⟨⟨_, rfl⟩, .inr ⟨_, trivial, hJx3⟩⟩
  ·obtain rfl : j = len := by omega
   gi_wp2
   go_end0
   exact ⟨⟨_, rfl⟩, .inl ⟨_, rfl, hJs⟩⟩
set_option maxRecDepth 100000 in
theorem av {α : Type} (m l Bs cap : Nat) (a : Option Addr) (J : List α → World → Prop) (W : World) (hBs : W.cell? ⟨Bs, 0, none⟩ = some (.slice a 0 cap)) (h0 : J [] W) :
  CallsIn Fence.wide m Tryz.prog 80 #[.func (.yield l) #[] #[], .pointer (some ⟨Bs, 0, none⟩)] W fun e W' => (∃ v, e = .returned v) ∧ J [] W' := by
 refine callsIn_of_wp Tryz.func80 rfl trivial ?_ rfl
 simp only [Tryz.ntmps80, List.size_toArray, List.length_cons, List.length_nil, Nat.reduceAdd, Nat.reduceSub, Array.replicate_succ, Array.replicate_zero, List.push_toArray, List.append_toArray, List.nil_append, List.cons_append]
 have hw0 : IntKind.i64.wrap (-1) = -1 := IntWalk.i64_in _ (by omega)
 gi_wp2
 gi_loopw [3] (fun i wr => i = .int .i64 (-1) ∧ J [] wr) (fun _ _ => 0)
 case atStart => exact ⟨rfl, h0⟩
 case round =>
  obtain ⟨rfl, hJs⟩ := hrel
  gi_wp2
  go_end0
  exact ⟨⟨_, rfl⟩, hJs⟩
theorem bG_stops (m Bs : Nat) (es : List PVal) (hes : ∀ x ∈ es, x.isAgg = true ∧ x.cells.length = 7) (sv : Value) (pr : Prot) (hlen : es.length ≤ 1000000000)
  (hp : pr Bs 0 = some sv) (hsv : PRep pr (.lst es) sv) (w : World) (hw : ∀ b o v, pr b o = some v → w.cell? ⟨b, o, none⟩ = some v ∧ b < w.heap.size) :
  ∃ vals : Nat → Value, (∀ k x, es[k]? = some x → PRep pr x (vals k)) ∧ ∀ {α : Type} {encs : α → Array Value} (f : Nat → α), (∀ k, k < es.length → encs (f k) = #[.int .i64 k, vals k]) →
  SeqStopsK Fence.wide m Tryz.prog 80 #[.pointer (some ⟨Bs, 0, none⟩)] encs (KeepsProt pr) (fun ys => ys = upto (fun j => f (es.length - 1 - j)) es.length) (fun _ => True) es.length w := by
 cases hsv with
 | lst _ a len cap size blk off vals hl hc hm ha hs hpv hr hk =>
  subst hl
  by_cases h0l : es = []
  ·subst h0l
   refine ⟨fun _ => default, fun k x h => by simp at h, fun f hen l J Jx W hW _ _ hY h0 => ?_⟩
   have cell : ∀ b o v, pr b o = some v → W.cell? ⟨b, o, none⟩ = some v := fun b o v h => (hW.cell (p := ⟨b, o, none⟩) (hw b o v h).2).trans (hw b o v h).1
   exact (av m l Bs cap a J W (cell _ _ _ hp) h0).mono fun e W' ⟨he, hj⟩ => ⟨he, .inl ⟨_, rfl, hj⟩⟩
  ·rw [ha h0l] at hp
   obtain ⟨x0, r0, hx0⟩ : ∃ x0 r0, es = x0 :: r0 := by cases es with | nil => exact absurd rfl h0l | cons a b => exact ⟨a, b, rfl⟩
   have hsz : size = 7 := by
    have h1 := hs x0 (by rw [hx0]; simp)
    have h2 := (hes x0 (by rw [hx0]; simp)).2
    omega
   subst hsz
   have hrep : ∀ k x, es[k]? = some x → PRep pr x (.agg ((List.range 7).map (vals k)).toArray) := fun k x hx => by
    have hxm := List.mem_of_getElem? hx
    obtain ⟨h1, h2⟩ := hes x hxm
    cases x with
    | agg cs =>
     refine .agg cs _ (by simpa [PVal.cells] using h2.symm) (fun j y v hy hv => ?_) (fun y hy => hk _ hxm y hy)
     have hj : j < 7 := by
      have := (List.getElem?_eq_some_iff.1 hy).1
      simp only [PVal.cells] at h2
      omega
     simp only [List.getElem?_map, List.getElem?_range hj, Option.map_some, Option.some.injEq] at hv
     subst hv
     exact hr k _ j y hx hy
    | _ => simp [PVal.isAgg] at h1
   refine ⟨fun k => .agg ((List.range 7).map (vals k)).toArray, hrep, fun f hen l J Jx W hW _ _ hY h0 => ?_⟩
   have cell : ∀ b o v, pr b o = some v → W.cell? ⟨b, o, none⟩ = some v := fun b o v h => (hW.cell (p := ⟨b, o, none⟩) (hw b o v h).2).trans (hw b o v h).1
   exact bG_walk f vals m l Bs blk off es.length cap pr hlen hen hp (fun k hk j hj => hpv k j hk hj) J Jx hY W cell h0
end Go.Proofs.YtgbjjikaenlkmaaGreat

namespace Go.Proofs.YtgbjjikaenlkmaaGreat
open Go Go.Abs Go.RowKit Go.Shelf
attribute [local go_sem] Oper.semAt_some
set_option maxRecDepth 100000 in
set_option maxHeartbeats 2000000 in
theorem bV_walk {α : Type} {encs : α → Array Value} (f : Nat → α) (cv : Nat → Nat → Value) (m l Bs b off len cap : Nat) (pr : Prot) (hlen : len ≤ 1000000000) (hen : ∀ k, k < len → encs (f k) = #[.int .i64 k, .agg #[cv k 0, cv k 1]])
  (hp : pr Bs 0 = some (.slice (some ⟨b, off, none⟩) len cap)) (hv : ∀ k, k < len → ∀ j, j < 2 → pr b (off + k * 2 + j) = some (cv k j)) (J Jx : List α → World → Prop)
  (hY : ∀ pre x W, J pre W → pre.length < len → YieldAt Fence.wide (m - 1) Tryz.prog l (encs x) W fun e W' =>
   (e = .returned (.bool true) ∧ J (pre ++ [x]) W' ∧ KeepsProt pr W W') ∨ (e = .returned (.bool false) ∧ Jx (pre ++ [x]) W'))
  (W : World) (hc : ∀ b o v, pr b o = some v → W.cell? ⟨b, o, none⟩ = some v) (h0 : J [] W) :
  CallsIn Fence.wide m Tryz.prog 67 #[.func (.yield l) #[] #[], .pointer (some ⟨Bs, 0, none⟩)] W fun e W' => (∃ v, e = .returned v) ∧
   ((∃ ys, ys = upto (fun j => f (len - 1 - j)) len ∧ J ys W') ∨ (∃ pre, True ∧ Jx pre W')) := by
 refine callsIn_of_wp Tryz.func67 rfl trivial ?_ rfl
 simp only [Tryz.ntmps67, List.size_toArray, List.length_cons, List.length_nil, Nat.reduceAdd, Nat.reduceSub, Array.replicate_succ, Array.replicate_zero, List.push_toArray, List.append_toArray, List.nil_append, List.cons_append]
 have hw0 : IntKind.i64.wrap ((len : Int) - 1) = (len : Int) - 1 := IntWalk.i64_in _ (by omega)
 have hBs := hc _ _ _ hp
 gi_wp2
 gi_loopw [3] (fun i wr => ∃ j : Nat, j ≤ len ∧ i = .int .i64 ((len : Int) - 1 - j) ∧ J (upto (fun j => f (len - 1 - j)) j) wr ∧ (∀ b o v, pr b o = some v → wr.cell? ⟨b, o, none⟩ = some v))
  (fun i _ => (intOf i + 1).toNat)
 case atStart => exact ⟨0, Nat.zero_le _, by simp, h0, hc⟩
 case round =>
  obtain ⟨j, hj, rfl, hJs, hcs⟩ := hrel
  have hB := hcs _ _ _ hp
  by_cases hlt : j < len
  ·obtain ⟨k, hk⟩ : ∃ k : Nat, len - 1 - j = k := ⟨_, rfl⟩
   have hkI : (len : Int) - 1 - j = (k : Int) := by omega
   rw [hkI]
   obtain ⟨fn, tmps, assign, body, hy, hR⟩ := hY _ (f k) wr hJs (by rw [mG]; exact hlt)
   rw [hen k (by omega)] at hy
   have hc0 := hcs _ _ _ (hv k (by omega) 0 (by decide))
   have hc1 := hcs _ _ _ (hv k (by omega) 1 (by decide))
   rw [Nat.add_zero] at hc0
   have hw1 : IntKind.i64.wrap ((k : Int) - 1) = (k : Int) - 1 := IntWalk.i64_in _ (by omega)
   gi_wp2
   refine ⟨fun h => by simp [Fence.wide] at h, hR.mono ?_⟩
   rintro e W3 (⟨rfl, hJ3, hk3⟩ | ⟨rfl, hJx3⟩)
   ·have hc3 : ∀ b o v, pr b o = some v → W3.cell? ⟨b, o, none⟩ = some v := fun b o v h => hk3 _ _ _ h (hcs b o v h)
    gi_wp2
    go_roundw
    case rel => exact ⟨j + 1, by omega, by congr 1; omega, by rw [sT, hk]; exact hJ3, hc3⟩
    case measure => simp [intOf]
   ·gi_wp2
    refine bodyPost_ret (results_none rfl _ _ _) rfl ?_
    exact ⟨⟨_, rfl⟩, .inr ⟨_, trivial, hJx3⟩⟩
  ·obtain rfl : j = len := by omega
   gi_wp2
   go_end0
   exact ⟨⟨_, rfl⟩, .inl ⟨_, rfl, hJs⟩⟩
set_option maxRecDepth 100000 in
theorem ar {α : Type} (m l Bs cap : Nat) (a : Option Addr) (J : List α → World → Prop) (W : World) (hBs : W.cell? ⟨Bs, 0, none⟩ = some (.slice a 0 cap)) (h0 : J [] W) :
  CallsIn Fence.wide m Tryz.prog 67 #[.func (.yield l) #[] #[], .pointer (some ⟨Bs, 0, none⟩)] W fun e W' => (∃ v, e = .returned v) ∧ J [] W' := by
 refine callsIn_of_wp Tryz.func67 rfl trivial ?_ rfl
 simp only [Tryz.ntmps67, List.size_toArray, List.length_cons, List.length_nil, Nat.reduceAdd, Nat.reduceSub, Array.replicate_succ, Array.replicate_zero, List.push_toArray, List.append_toArray, List.nil_append, List.cons_append]
 have hw0 : IntKind.i64.wrap (-1) = -1 := IntWalk.i64_in _ (by omega)
 gi_wp2
 gi_loopw [3] (fun i wr => i = .int .i64 (-1) ∧ J [] wr) (fun _ _ => 0)
 case atStart => exact ⟨rfl, h0⟩
 case round =>
  obtain ⟨rfl, hJs⟩ := hrel
  gi_wp2
  go_end0
  exact ⟨⟨_, rfl⟩, hJs⟩
theorem bV_stops (m Bs : Nat) (es : List PVal) (hes : ∀ x ∈ es, x.isAgg = true ∧ x.cells.length = 2) (sv : Value) (pr : Prot) (hlen : es.length ≤ 1000000000)
  (hp : pr Bs 0 = some sv) (hsv : PRep pr (.lst es) sv) (w : World) (hw : ∀ b o v, pr b o = some v → w.cell? ⟨b, o, none⟩ = some v ∧ b < w.heap.size) :
  ∃ vals : Nat → Value, (∀ k x, es[k]? = some x → PRep pr x (vals k)) ∧ ∀ {α : Type} {encs : α → Array Value} (f : Nat → α), (∀ k, k < es.length → encs (f k) = #[.int .i64 k, vals k]) →
  SeqStopsK Fence.wide m Tryz.prog 67 #[.pointer (some ⟨Bs, 0, none⟩)] encs (KeepsProt pr) (fun ys => ys = upto (fun j => f (es.length - 1 - j)) es.length) (fun _ => True) es.length w := by
 cases hsv with
 | lst _ a len cap size blk off vals hl hc hm ha hs hpv hr hk =>
  subst hl
  by_cases h0l : es = []
  ·subst h0l
   refine ⟨fun _ => default, fun k x h => by simp at h, fun f hen l J Jx W hW _ _ hY h0 => ?_⟩
   have cell : ∀ b o v, pr b o = some v → W.cell? ⟨b, o, none⟩ = some v := fun b o v h => (hW.cell (p := ⟨b, o, none⟩) (hw b o v h).2).trans (hw b o v h).1
   exact (ar m l Bs cap a J W (cell _ _ _ hp) h0).mono fun e W' ⟨he, hj⟩ => ⟨he, .inl ⟨_, rfl, hj⟩⟩
  ·rw [ha h0l] at hp
   obtain ⟨x0, r0, hx0⟩ : ∃ x0 r0, es = x0 :: r0 := by cases es with | nil => exact absurd rfl h0l | cons a b => exact ⟨a, b, rfl⟩
   have hsz : size = 2 := by
    have h1 := hs x0 (by rw [hx0]; simp)
    have h2 := (hes x0 (by rw [hx0]; simp)).2
    omega
   subst hsz
   have hrep : ∀ k x, es[k]? = some x → PRep pr x (.agg ((List.range 2).map (vals k)).toArray) := fun k x hx => by
    have hxm := List.mem_of_getElem? hx
    obtain ⟨h1, h2⟩ := hes x hxm
    cases x with
    | agg cs =>
     refine .agg cs _ (by simpa [PVal.cells] using h2.symm) (fun j y v hy hv => ?_) (fun y hy => hk _ hxm y hy)
     have hj : j < 2 := by
      have := (List.getElem?_eq_some_iff.1 hy).1
      simp only [PVal.cells] at h2
      omega
     simp only [List.getElem?_map, List.getElem?_range hj, Option.map_some, Option.some.injEq] at hv
     subst hv
     exact hr k _ j y hx hy
    | _ => simp [PVal.isAgg] at h1
   refine ⟨fun k => .agg ((List.range 2).map (vals k)).toArray, hrep, fun f hen l J Jx W hW _ _ hY h0 => ?_⟩
   have cell : ∀ b o v, pr b o = some v → W.cell? ⟨b, o, none⟩ = some v := fun b o v h => (hW.cell (p := ⟨b, o, none⟩) (hw b o v h).2).trans (hw b o v h).1
   exact bV_walk f vals m l Bs blk off es.length cap pr hlen hen hp (fun k hk j hj => hpv k j hk hj) J Jx hY W cell h0
end Go.Proofs.YtgbjjikaenlkmaaGreat

namespace Go.Proofs.YtgbjjikaenlkmaaGreat
open Go Go.Abs Go.Limbs
set_option maxRecDepth 20000
structure Cd (α : Type) where
 enc : α → PVal
 dec : PVal → Option α
 wf : α → Prop
 de : ∀ x, wf x → dec (enc x) = some x
 ed : ∀ v x, dec v = some x → v = enc x ∧ wf x
def ju {α : Type} (d : PVal → Option α) : List PVal → Option (List α)
 | [] => some []
 | v :: r => match d v with
  | some x => match ju d r with
   | some l => some (x :: l)
   | none => none
  | none => none
def Cd.wfL {α : Type} (A : Cd α) (l : List α) : Prop := ∀ x ∈ l, A.wf x
theorem Cd.deL {α : Type} (A : Cd α) : ∀ l : List α, A.wfL l → ju A.dec (l.map A.enc) = some l
 | [], _ => rfl
 | x :: r, h => by simp only [List.map_cons, ju, A.de x (h x (by simp)), A.deL r (fun y hy => h y (by simp [hy]))]
theorem Cd.edL {α : Type} (A : Cd α) : ∀ (vs : List PVal) (l : List α), ju A.dec vs = some l → vs = l.map A.enc ∧ A.wfL l
 | [], l, h => by cases h; exact ⟨rfl, fun x hx => by cases hx⟩
 | v :: r, l, h => by
  unfold ju at h
  split at h
  ·rename_i x hx
   split at h
   ·rename_i m hm
    cases h
    obtain ⟨rfl, wx⟩ := A.ed v x hx
    obtain ⟨rfl, wm⟩ := A.edL r m hm
    refine ⟨rfl, fun y hy => ?_⟩
    rcases List.mem_cons.1 hy with rfl | hy
    ·exact wx
    ·exact wm y hy
   ·cases h
  ·cases h
def Cd.lst {α : Type} (A : Cd α) : Cd (List α) where
 enc l := .lst (l.map A.enc)
 dec v := match v with | .lst vs => ju A.dec vs | _ => none
 wf := A.wfL
 de l h := A.deL l h
 ed v l h := by
  split at h
  ·obtain ⟨rfl, w⟩ := A.edL _ _ h; exact ⟨rfl, w⟩
  ·cases h
def cI : Cd Int where
 enc n := .int .i64 n
 dec v := match v with | .int .i64 n => some n | _ => none
 wf _ := True
 de _ _ := rfl
 ed v x h := by
  split at h
  ·cases h; exact ⟨rfl, trivial⟩
  ·cases h
structure Va where
 k : Int
 b : Bool
 x : Fr
 el : Int
 deriving DecidableEq
def Va.cells (v : Va) : List PVal := [.int .i64 v.k, .bool v.b, .bool v.x.s, .lst (v.x.n.map u64), .lst (v.x.d.map u64), .int .i64 v.el]
def Va.enc (v : Va) : PVal := .agg v.cells
def nr : List PVal → Option Va
 | [.int .i64 k, .bool b, .bool s, .lst xs, .lst ys, .int .i64 e] => match jz xs, jz ys with | some l, some m => some ⟨k, b, ⟨s, l, m⟩, e⟩ | _, _ => none
 | _ => none
theorem uq {v : Va} (h : v.x.wf) : nr v.cells = some v := by simp only [nr, Va.cells, zY h.1, zY h.2]
theorem yI {l : List PVal} {v : Va} (h : nr l = some v) : l = v.cells ∧ v.x.wf := by
 unfold nr at h
 split at h
 ·split at h
  ·rename_i hl hm
   cases h
   obtain ⟨rfl, wl⟩ := zI hl
   obtain ⟨rfl, wm⟩ := zI hm
   exact ⟨rfl, wl, wm⟩
  ·cases h
 ·cases h
def cVa : Cd Va where
 enc := Va.enc
 dec v := match v with | .agg l => nr l | _ => none
 wf v := v.x.wf
 de v h := uq h
 ed v x h := by
  split at h
  ·obtain ⟨rfl, w⟩ := yI h; exact ⟨rfl, w⟩
  ·cases h
structure Gv where
 id : Int
 v : Va
def cGv : Cd Gv where
 enc g := .agg (.int .i64 g.id :: g.v.cells)
 dec v := match v with | .agg (.int .i64 n :: l) => (match nr l with | some v => some ⟨n, v⟩ | none => none) | _ => none
 wf g := g.v.x.wf
 de g h := by simp only [uq h]
 ed v x h := by
  split at h
  ·split at h
   ·rename_i hv
    cases h
    obtain ⟨rfl, w⟩ := yI hv
    exact ⟨rfl, w⟩
   ·cases h
  ·cases h
structure Md where
 id : Int
 f : List UInt8
 ag : List Int
def cMd : Cd Md where
 enc m := .agg [.int .i64 m.id, .str m.f, .lst (m.ag.map cI.enc)]
 dec v := match v with | .agg [.int .i64 n, .str s, .lst l] => (match ju cI.dec l with | some a => some ⟨n, s, a⟩ | none => none) | _ => none
 wf _ := True
 de m _ := by simp only [cI.deL m.ag (fun _ _ => trivial)]
 ed v x h := by
  split at h
  ·split at h
   ·rename_i hv
    cases h
    obtain ⟨rfl, w⟩ := cI.edL _ _ hv
    exact ⟨rfl, trivial⟩
   ·cases h
  ·cases h
structure Vr where
 id : Int
 k : Int
def cVr : Cd Vr where
 enc g := .agg [.int .i64 g.id, .int .i64 g.k]
 dec v := match v with | .agg [.int .i64 n, .int .i64 k] => some ⟨n, k⟩ | _ => none
 wf _ := True
 de _ _ := rfl
 ed v x h := by
  split at h
  ·cases h; exact ⟨rfl, trivial⟩
  ·cases h
structure Li where
 a : At
 no : Bool
def At.cells (x : At) : List PVal := [.int .i64 x.k, .lst (x.p.ps.map Pa.enc), .bool x.p.c.s, .lst (x.p.c.n.map u64), .lst (x.p.c.d.map u64), .int .i64 x.a, .int .i64 x.b]
def cLi : Cd Li where
 enc l := .agg (l.a.cells ++ [.bool l.no])
 dec v := match v with
  | .agg [.int .i64 k, .lst vs, .bool s, .lst xs, .lst ys, .int .i64 a, .int .i64 b, .bool no] => (match nt (.agg [.int .i64 k, .lst vs, .bool s, .lst xs, .lst ys, .int .i64 a, .int .i64 b]) with | some x => some ⟨x, no⟩ | none => none)
  | _ => none
 wf l := l.a.p.wf
 de l h := by
  have := decAt_enc h
  unfold At.enc at this
  simp only [At.cells, List.cons_append, List.nil_append, this]
 ed v x h := by
  split at h
  ·split at h
   ·rename_i hv
    cases h
    obtain ⟨e, w⟩ := lR hv
    unfold At.enc at e
    cases e
    exact ⟨rfl, w⟩
   ·cases h
  ·cases h
structure Rw where
 ag : List Va
 v : Va
def cRw : Cd Rw where
 enc r := .agg (.lst (r.ag.map Va.enc) :: r.v.cells)
 dec v := match v with | .agg (.lst l :: c) => (match ju cVa.dec l with | some a => (match nr c with | some v => some ⟨a, v⟩ | none => none) | none => none) | _ => none
 wf r := cVa.wfL r.ag ∧ r.v.x.wf
 de r h := by
  have := cVa.deL r.ag h.1
  simp only [cVa] at this
  simp only [cVa, this, uq h.2]
 ed v x h := by
  split at h
  ·split at h
   ·rename_i ha
    split at h
    ·rename_i hv
     cases h
     obtain ⟨rfl, w⟩ := cVa.edL _ _ ha
     obtain ⟨rfl, w'⟩ := yI hv
     exact ⟨rfl, w, w'⟩
    ·cases h
   ·cases h
  ·cases h
structure Tb where
 f : List UInt8
 rows : List Rw
 els : Va
def cTb : Cd Tb where
 enc t := .agg (.str t.f :: .lst (t.rows.map cRw.enc) :: t.els.cells)
 dec v := match v with | .agg (.str f :: .lst l :: c) => (match ju cRw.dec l with | some a => (match nr c with | some v => some ⟨f, a, v⟩ | none => none) | none => none) | _ => none
 wf t := cRw.wfL t.rows ∧ t.els.x.wf
 de t h := by simp only [cRw.deL t.rows h.1, uq h.2]
 ed v x h := by
  split at h
  ·split at h
   ·rename_i ha
    split at h
    ·rename_i hv
     cases h
     obtain ⟨rfl, w⟩ := cRw.edL _ _ ha
     obtain ⟨rfl, w'⟩ := yI hv
     exact ⟨rfl, w, w'⟩
    ·cases h
   ·cases h
  ·cases h
def cPr : Cd (Int × Int) where
 enc p := .agg [.int .i64 p.1, .int .i64 p.2]
 dec v := match v with | .agg [.int .i64 a, .int .i64 b] => some (a, b) | _ => none
 wf _ := True
 de _ _ := rfl
 ed v x h := by
  split at h
  ·cases h; exact ⟨rfl, trivial⟩
  ·cases h
def sp1 {α : Type} (A : Cd α) (g : α → Option PVal) : List PVal → Option PVal
 | [a] => match A.dec a with | some x => g x | none => none
 | _ => none
def sp2 {α β : Type} (A : Cd α) (B : Cd β) (g : α → β → Option PVal) : List PVal → Option PVal
 | [a, b] => match A.dec a with | some x => (match B.dec b with | some y => g x y | none => none) | none => none
 | _ => none
def sp3 {α β γ : Type} (A : Cd α) (B : Cd β) (C : Cd γ) (g : α → β → γ → Option PVal) : List PVal → Option PVal
 | [a, b, c] => match A.dec a with | some x => (match B.dec b with | some y => (match C.dec c with | some z => g x y z | none => none) | none => none) | none => none
 | _ => none
theorem cF {α : Type} {A : Cd α} {g : α → Option PVal} {x : α} (h : A.wf x) : sp1 A g [A.enc x] = g x := by simp only [sp1, A.de x h]
theorem jD {α β : Type} {A : Cd α} {B : Cd β} {g : α → β → Option PVal} {x : α} {y : β} (h : A.wf x) (k : B.wf y) : sp2 A B g [A.enc x, B.enc y] = g x y := by simp only [sp2, A.de x h, B.de y k]
theorem xj {α β γ : Type} {A : Cd α} {B : Cd β} {C : Cd γ} {g : α → β → γ → Option PVal} {x : α} {y : β} {z : γ} (h : A.wf x) (k : B.wf y) (m : C.wf z) : sp3 A B C g [A.enc x, B.enc y, C.enc z] = g x y z := by simp only [sp3, A.de x h, B.de y k, C.de z m]
theorem uK {α : Type} {A : Cd α} {g : α → Option PVal} {args : List PVal} {r : PVal} (h : sp1 A g args = some r) : ∃ x, A.wf x ∧ args = [A.enc x] ∧ g x = some r := by
 unfold sp1 at h
 split at h
 ·split at h
  ·rename_i x hx
   obtain ⟨rfl, w⟩ := A.ed _ _ hx
   exact ⟨x, w, rfl, h⟩
  ·cases h
 ·cases h
theorem kJ {α β : Type} {A : Cd α} {B : Cd β} {g : α → β → Option PVal} {args : List PVal} {r : PVal} (h : sp2 A B g args = some r) : ∃ x y, A.wf x ∧ B.wf y ∧ args = [A.enc x, B.enc y] ∧ g x y = some r := by
 unfold sp2 at h
 split at h
 ·split at h
  ·rename_i x hx
   split at h
   ·rename_i y hy
    obtain ⟨rfl, w⟩ := A.ed _ _ hx
    obtain ⟨rfl, w'⟩ := B.ed _ _ hy
    exact ⟨x, y, w, w', rfl, h⟩
   ·cases h
  ·cases h
 ·cases h
theorem y3 {α β γ : Type} {A : Cd α} {B : Cd β} {C : Cd γ} {g : α → β → γ → Option PVal} {args : List PVal} {r : PVal} (h : sp3 A B C g args = some r) : ∃ x y z, A.wf x ∧ B.wf y ∧ C.wf z ∧ args = [A.enc x, B.enc y, C.enc z] ∧ g x y z = some r := by
 unfold sp3 at h
 split at h
 ·split at h
  ·rename_i x hx
   split at h
   ·rename_i y hy
    split at h
    ·rename_i z hz
     obtain ⟨rfl, w⟩ := A.ed _ _ hx
     obtain ⟨rfl, w'⟩ := B.ed _ _ hy
     obtain ⟨rfl, w''⟩ := C.ed _ _ hz
     exact ⟨x, y, z, w, w', w'', rfl, h⟩
    ·cases h
   ·cases h
  ·cases h
 ·cases h
def ve (l : List (Int × PVal)) : List AVal := l.foldr (fun p m => wE p.1 p.2 m) []
def jA (n : Int) : List (Int × PVal) → Option PVal
 | [] => none
 | p :: r => if p.1 = n then some p.2 else jA n r
theorem cZ (n m : Int) (y : PVal) : ∀ l : List AVal, (∀ x ∈ l, ∃ k z, x = qb k z) → qJ n (wE m y l) = if m = n then some y else qJ n l
 | [], _ => by
  by_cases h : m = n
  ·subst h; simp [wE, qb, qJ]
  ·have h' : ¬ n = m := fun e => h e.symm
   simp [wE, qb, qJ, h, h']
 | x :: r, h => by
  obtain ⟨k, z, rfl⟩ := h x (by simp)
  have ih := cZ n m y r (fun x hx => h x (by simp [hx]))
  by_cases hk : m = k
  ·subst hk
   by_cases hn : m = n
   ·subst hn; simp [wE, qb, qJ]
   ·have hn' : ¬ n = m := fun e => hn e.symm
    simp [wE, qb, qJ, hn, hn']
  ·by_cases hn : n = k
   ·subst hn
    simp [wE, qb, qJ, hk]
   ·simp [wE, qb, qJ, hk, hn, ih]
theorem kU (m : Int) (y : PVal) : ∀ l : List AVal, (∀ x ∈ l, ∃ k z, x = qb k z) → ∀ x ∈ wE m y l, ∃ k z, x = qb k z
 | [], _, x, hx => by simp [wE] at hx; exact ⟨m, y, hx⟩
 | a :: r, h, x, hx => by
  obtain ⟨k, z, rfl⟩ := h a (by simp)
  by_cases hk : m = k
  ·subst hk
   simp [wE, qb] at hx
   rcases hx with hx | hx
   ·exact ⟨m, y, hx⟩
   ·exact h x (by simp [hx])
  ·simp [wE, qb, hk] at hx
   rcases hx with hx | hx
   ·exact ⟨k, z, hx⟩
   ·exact kU m y r (fun x hx => h x (by simp [hx])) x hx
theorem kI : ∀ (l : List (Int × PVal)), ∀ x ∈ ve l, ∃ k z, x = qb k z
 | [], x, hx => by simp [ve] at hx
 | p :: r, x, hx => kU p.1 p.2 (ve r) (kI r) x hx
theorem yB (n : Int) : ∀ l : List (Int × PVal), qJ n (ve l) = jA n l
 | [] => rfl
 | p :: r => by
  have : ve (p :: r) = wE p.1 p.2 (ve r) := rfl
  rw [this, cZ n p.1 p.2 _ (kI r), yB n r]
  rfl
end Go.Proofs.YtgbjjikaenlkmaaGreat

namespace Go.Proofs.YtgbjjikaenlkmaaGreat
open Go Go.Abs Go.Limbs Go.RowKit
variable {base : Prot}
set_option maxRecDepth 20000
def blkC1 : Code → Code
  | .block _ c => c
  | c => c
def rngA1 : Code → Code
  | .rangeFunc _ _ a _ => a
  | c => c
def rngB1 : Code → Code
  | .rangeFunc _ _ _ b => b
  | c => c
def opAt : Code → Nat → Oper
  | .region _ ops _, i => ops[i]!
  | _, _ => default
def dC (P : Program) (ty : TypeId) (n : Nat) : Bool := (P.underlying ty).isSome && (match P.info? ty with
  | some i => (match i.zero with | some z => decide (z.cells.size = n) | none => false)
  | none => false) && decide (zg P ty = n)
theorem mF {P : Program} {ty : TypeId} {n : Nat} (h : dC P ty n = true) : ∃ d i z, P.underlying ty = some d ∧ P.info? ty = some i ∧ i.zero = some z ∧ z.cells.size = n ∧ zg P ty = n := by
  unfold dC at h
  simp only [Bool.and_eq_true, decide_eq_true_eq] at h
  obtain ⟨⟨h1, h2⟩, h3⟩ := h
  obtain ⟨d, hd⟩ := Option.isSome_iff_exists.1 h1
  cases hi : P.info? ty with
  | none => rw [hi] at h2; cases h2
  | some i =>
    rw [hi] at h2
    simp only at h2
    cases hz : i.zero with
    | none => rw [hz] at h2; cases h2
    | some z =>
      rw [hz] at h2
      exact ⟨d, i, z, hd, rfl, hz, of_decide_eq_true h2, h3⟩
theorem eO {c c' : Ctx} {w w' : World} {r : AVal} {v : Value} {E T : zb} (h0 : c.locs = []) (st : Step c w c' w') (i : Inv base c' (E ++ T) w') (rp : Rep c' r v) (hb : uF E.length E) (hr : Below E.length r) :
    ∃ c2, Step c w c2 w' ∧ Inv base c2 E w' ∧ Rep c2 r v := by
  refine ⟨⟨c'.locs.take E.length, c'.prot⟩, ⟨st.prot, fun k l hl => ?_, st.os, st.tape, st.output, st.size, st.blk, fun b hb => ?_, st.newprot⟩, i.dropTail hb, rp.drop _ hr⟩
  · rw [h0] at hl; simp at hl
  · obtain ⟨k, l, cap, h1, h2⟩ := hb
    rw [List.getElem?_take] at h1
    split at h1
    · exact st.newloc b ⟨k, l, cap, h1, h2⟩
    · cases h1
def Gv.cells (g : Gv) : List PVal := .int .i64 g.id :: g.v.cells
section
attribute [local irreducible] vc
attribute [local simp] za zh freezeL fuel zk
def sBkG : List PVal → Option (AVal × zb)
  | [.lst es] => some (.clo 80 [.optr 0 0 0 0], [⟨1, 0, false, [.p (.lst es)], 30⟩])
  | _ => none
theorem bkG_ok : zH Tryz.prog base 47 sBkG := by
  refine ⟨qp low47, fun args r E hs c w vs hI hr => ?_⟩
  unfold sBkG at hs
  split at hs
  case h_2 => cases hs
  rename_i es
  cases hs
  refine (vt zE Tab.none_ok ze low47 (Q := fun r H => r = .clo 80 [.optr 0 0 0 0] ∧ H = [⟨1, 0, false, [.p (.lst es)], 30⟩]) (by simp [lf47]) hI hr (fun _ => ?_)).mono fun e w' ⟨v, r2, H2, c', he, hq, st, i', rp⟩ => ?_
  · simp [lf47, jc, tF, jd]
  · obtain ⟨rfl, rfl⟩ := hq
    exact ⟨v, c', he, st, i', rp⟩
end
noncomputable def bdG : Code := (Tryz.f24.body).getD .skip
noncomputable def c0G : Code := nG bdG
noncomputable def c1G : Code := nG (ku bdG)
noncomputable def cRG : Code := nG (nG (ku (ku bdG)))
noncomputable def cTG : Code := ku (ku (ku bdG))
noncomputable def cAG : Code := rngA1 (blkC1 (ku (nG (ku (ku bdG)))))
noncomputable def cBG : Code := rngB1 (blkC1 (ku (nG (ku (ku bdG)))))
theorem bodyG : Tryz.f24.body = some (seqs [c0G, c1G] ((cRG.seq (.block 0 (.rangeFunc (.tmp 8) #[9, 10] cAG cBG))).seq cTG)) := by kernel_rfl
def LG : LCode := lf24.body
theorem preG : [c0G, c1G].map (zJ Tryz.prog gl0 Tryz.f24.ntmps) = [cx LG, cx (ko LG)] := by kernel_rfl
theorem rG : zJ Tryz.prog gl0 Tryz.f24.ntmps cRG = cx (cx (ko (ko LG))) := by kernel_rfl
theorem tG : zJ Tryz.prog gl0 Tryz.f24.ntmps cTG = ko (ko (ko LG)) := by kernel_rfl
def lBG : LCode := .block 1 (
   .region [
     ⟨(some 11), none, .load 1 false (.tmp 3)⟩,
     ⟨(some 12), none, .fadr 0 (.tmp 5)⟩,
     ⟨(some 13), none, .load 1 false (.tmp 12)⟩,
     ⟨(some 14), none, .fadr 1 (.tmp 5)⟩,
     ⟨(some 15), none, .load 6 true (.tmp 14)⟩,
     ⟨none, none, .mset (.tmp 11) (.tmp 13) (.tmp 15)⟩])
theorem bG_low : zJ Tryz.prog gl0 Tryz.f24.ntmps cBG = lBG := by kernel_rfl
theorem bG_plain : qG cBG = true := by kernel_rfl
theorem resG : zN (jq Tryz.prog Tryz.f24.ntmps) Tryz.f24.results.toList = some lf24.results := by kernel_rfl
noncomputable def o1G : Oper := opAt cAG 0
noncomputable def o2G : Oper := opAt cAG 1
theorem cAG_eq : cAG = .region 3 #[o1G, o2G] false := by kernel_rfl
theorem iT : o1G.op = .alloc 38 ∧ o1G.dst = some 5 ∧ o1G.guard = none := ⟨by kernel_rfl, by kernel_rfl, by kernel_rfl⟩
theorem iR : o2G.op = .store 38 (.tmp 5) (.tmp 10) ∧ o2G.dst = none ∧ o2G.guard = none := ⟨by kernel_rfl, by kernel_rfl, by kernel_rfl⟩
theorem zeroG : dC Tryz.prog 38 7 = true := by kernel_rfl
def kvG (g : Gv) : Int × PVal := (g.id, g.v.enc)
def dfG : Gv := ⟨0, ⟨0, false, ⟨false, [], []⟩, 0⟩⟩
def zvG : List Value := [.int .i64 0, .int .i64 0, .bool false, .bool false, .slice none 0 0, .slice none 0 0, .int .i64 0]
theorem zvG_rep (pr : Prot) : ∀ (j : Nat) z, (Gv.cells dfG)[j]? = some z → ∃ v, zvG[j]? = some v ∧ PRep pr z v := by
  intro j z h
  have hl : ∀ k, PRep pr (.lst []) (.slice none 0 0) := fun k => .lst [] none 0 0 k 0 0 (fun _ _ => default) rfl (Nat.le_refl _) (by decide) (by simp) (by simp) (by simp) (by simp) (by simp)
  match j, h with
  | 0, h => simp [Gv.cells, Va.cells, dfG] at h; subst h; exact ⟨_, rfl, .int _ _⟩
  | 1, h => simp [Gv.cells, Va.cells, dfG] at h; subst h; exact ⟨_, rfl, .int _ _⟩
  | 2, h => simp [Gv.cells, Va.cells, dfG] at h; subst h; exact ⟨_, rfl, .bool _⟩
  | 3, h => simp [Gv.cells, Va.cells, dfG] at h; subst h; exact ⟨_, rfl, .bool _⟩
  | 4, h => simp [Gv.cells, Va.cells, dfG] at h; subst h; exact ⟨_, rfl, hl 0⟩
  | 5, h => simp [Gv.cells, Va.cells, dfG] at h; subst h; exact ⟨_, rfl, hl 0⟩
  | 6, h => simp [Gv.cells, Va.cells, dfG] at h; subst h; exact ⟨_, rfl, .int _ _⟩
  | j + 7, h => simp [Gv.cells, Va.cells, dfG] at h
def mO : List PVal → Option (AVal × zb)
  | [.lst es] => match ju cGv.dec es with
    | some gs => if gs.length ≤ 1000000000 then some (.omap 0 0, [⟨0, 0, false, ve (gs.map kvG), 0⟩]) else none
    | none => none
  | _ => none
def TkG : Tab := Tab.none.with 47 sBkG
theorem TkG_ok : TabOk Tryz.prog base TkG := Tab.with_ok Tab.none_ok bkG_ok
theorem TkG_fns : TkG.fn 47 = sBkG := (rfl)
theorem TkG_mu (f : FuncId) (a : List AVal) (H : zb) : TkG.mu f a H = none := (rfl)
def H0G (gs : List Gv) (es : List PVal) (pre : List Nat) : zb := [⟨0, 0, false, pre.foldl (fun m k => wE (kvG (gs.getD k dfG)).1 (kvG (gs.getD k dfG)).2 m) [], 0⟩, ⟨1, 0, false, [.omap 0 0], 88⟩, ⟨1, 0, true, [.p (.lst es)], 30⟩]
theorem H0G_all (gs : List Gv) : (upto (fun j => gs.length - 1 - j) gs.length).foldl (fun m k => wE (kvG (gs.getD k dfG)).1 (kvG (gs.getD k dfG)).2 m) [] = ve (gs.map kvG) := by
  have e : upto (fun j => gs.length - 1 - j) gs.length = (List.range gs.length).reverse := by
    apply List.ext_getElem?
    intro j
    unfold upto
    by_cases hj : j < gs.length
    · simp [hj]
    · rw [List.getElem?_eq_none (by simp; omega), List.getElem?_eq_none (by simp; omega)]
  rw [e, List.foldl_reverse]
  unfold ve
  rw [List.foldr_map]
  have e2 : gs = (List.range gs.length).map (fun k => gs.getD k dfG) := by
    apply List.ext_getElem?
    intro j
    by_cases hj : j < gs.length
    · simp [hj]
    · rw [List.getElem?_eq_none (by omega), List.getElem?_eq_none (by simp; omega)]
  conv => rhs; rw [e2]
  rw [List.foldr_map]
section
attribute [local irreducible] vc
attribute [local simp] za zh freezeL fuel zk
theorem zap : zH Tryz.prog base 24 mO := by
  refine ⟨qp low24, fun args r E hs c w vs hI hr => ?_⟩
  unfold mO at hs
  split at hs
  case h_2 => cases hs
  rename_i es
  split at hs
  case h_2 => cases hs
  rename_i gs hg
  split at hs
  case isFalse => cases hs
  rename_i hlen
  cases hs
  obtain ⟨rfl, wgs⟩ := cGv.edL _ _ hg
  obtain ⟨es, hes⟩ : ∃ t, t = gs.map cGv.enc := ⟨_, rfl⟩
  rw [← hes] at hr
  have hel : es.length = gs.length := by rw [hes]; simp
  have hloc : c.locs = [] := List.length_eq_zero_iff.1 (by rw [hI.len]; rfl)
  have hagg : ∀ x ∈ es, x.isAgg = true ∧ x.cells.length = 7 := fun x hx => by
    rw [hes] at hx
    obtain ⟨g, _, rfl⟩ := List.mem_map.1 hx
    exact ⟨rfl, rfl⟩
  refine (bI (T := TkG) zE TkG_ok ze Tryz.func24 bodyG resG (args := [(.lst es : PVal)].map AVal.p) (H := []) (Q := fun r H => r = .omap 0 0 ∧ ∃ T', H = [⟨0, 0, false, ve (gs.map kvG), 0⟩] ++ T') (by simp [Tryz.ntmps24]) hI hr
    (fun fr H => fr 3 = .optr 1 0 0 0 ∧ fr 8 = .clo 80 [.optr 2 0 0 0] ∧ H = [⟨0, 0, false, [], 0⟩, ⟨1, 0, false, [.omap 0 0], 88⟩, ⟨1, 0, false, [.p (.lst es)], 30⟩]) ?_ ?_).mono fun e w' ⟨v, r, H', c', he, hq, st, i', rp⟩ => ?_
  · rw [preG, rG]
    simp [vcs, LG, cx, ko, lf24, TkG_mu, TkG_fns, sBkG, qX]
  · rintro fr H c' w' a ⟨h3, h8, hH⟩ st iv sim hd
    have hsz : a.tmps.size = 17 := sim.1
    have rt := sim.2 8 (by rw [Tryz.ntmps24]; decide)
    rw [h8] at rt
    obtain ⟨v0, hv0, r0⟩ : ∃ v0, a.tmps.getD 8 undef = .func (.func 80) #[] #[v0] ∧ Rep c' (.optr 2 0 0 0) v0 := by
      generalize a.tmps.getD 8 undef = v at rt
      cases rt with
      | clo _ _ vs hl hr =>
        match vs, hl, hr with
        | [v0], _, hr => exact ⟨v0, rfl, hr 0 _ _ rfl rfl⟩
    have hk : H[2]? = some ⟨1, 0, false, [.p (.lst es)], 30⟩ := by rw [hH]; rfl
    obtain ⟨l, hl, he⟩ := iv.loc hk
    obtain ⟨hmp, g, cap, hp, rfl⟩ : l.mp = false ∧ ∃ g cap, l.place = some (g, cap) ∧ v0 = .pointer (some ⟨g, 0, none⟩) := by
      cases r0 with
      | optr _ _ _ _ l2 _ hl2 hv2 hh ho =>
        rw [hl] at hl2
        cases hl2
        obtain ⟨hm, g, cap, h1, h2⟩ := hh he.ver.symm
        exact ⟨hm, g, cap, h1, by simpa using h2⟩
    obtain ⟨cur, ty2, hh, _, _, _, hcur, _⟩ := he.there g cap hp hmp
    obtain ⟨sv, hsv, rsv⟩ := hcur 0 (.p (.lst es)) 0 (.p (.lst es)) rfl rfl
    simp only [Nat.zero_mul, Nat.zero_add] at hsv
    have hcell : w'.cell? ⟨g, 0, none⟩ = some sv := by
      unfold World.cell?
      simp [hh, hsv]
    obtain ⟨c1, e1, s1, i1, pm⟩ := iv.freeze1 2
    have hpr : c1.prot g 0 = some sv := (pm _ _ _ _ hk (by rw [e1]; exact hl) hp hmp 0 (by simp)).trans hcell
    have psv : PRep c1.prot (.lst es) sv := by
      cases rsv with
      | p _ _ h => exact h.mono s1.prot
    have hF : Abs.freeze1 H 2 = H0G gs es [] := by rw [hH]; rfl
    rw [hF] at i1
    obtain ⟨vals, hvals, hseq⟩ := bG_stops 5 g es hagg sv c1.prot (by omega) hpr psv w' (fun b o v hv => ⟨i1.prot b o v hv, i1.prot_lt hv⟩)
    have hval : ∀ k, k < es.length → ∃ us : List Value, vals k = .agg us.toArray ∧ us.length = 7 ∧ ∀ (j : Nat) z, (Gv.cells (gs.getD k dfG))[j]? = some z → ∃ v, us[j]? = some v ∧ PRep c1.prot z v := fun k hk => by
      have hg : gs[k]? = some (gs.getD k dfG) := by
        rw [List.getD_eq_getElem?_getD]
        rw [List.getElem?_eq_getElem (by omega)]
        rfl
      have hx : es[k]? = some (cGv.enc (gs.getD k dfG)) := by rw [hes, List.getElem?_map, hg]; rfl
      have := hvals k _ hx
      have he : cGv.enc (gs.getD k dfG) = .agg (Gv.cells (gs.getD k dfG)) := rfl
      rw [he] at this
      generalize vals k = vk at this
      cases this with
      | agg _ us hl hr hk =>
        refine ⟨us, rfl, hl, fun j z hz => ?_⟩
        have hj := (List.getElem?_eq_some_iff.1 hz).1
        exact ⟨us[j], by simp, hr j z _ hz (by simp)⟩
    obtain ⟨vx, hvx⟩ : ∃ vx : Nat → List Value, ∀ k, (vx k).length = 7 ∧ (∀ (j : Nat) z, (Gv.cells (gs.getD k dfG))[j]? = some z → ∃ v, (vx k)[j]? = some v ∧ PRep c1.prot z v) ∧ (k < es.length → vals k = .agg (vx k).toArray) := by
      have : ∀ k, ∃ us : List Value, us.length = 7 ∧ (∀ (j : Nat) z, (Gv.cells (gs.getD k dfG))[j]? = some z → ∃ v, us[j]? = some v ∧ PRep c1.prot z v) ∧ (k < es.length → vals k = .agg us.toArray) := fun k => by
        by_cases hk : k < es.length
        · obtain ⟨us, h1, h2, h3⟩ := hval k hk
          exact ⟨us, h2, h3, fun _ => h1⟩
        · refine ⟨zvG, rfl, ?_, fun h => absurd h hk⟩
          rw [List.getD_eq_getElem?_getD, List.getElem?_eq_none (by omega)]
          exact zvG_rep c1.prot
      exact ⟨fun k => (this k).choose, fun k => (this k).choose_spec⟩
    have eact : ∀ k : Nat, ({ tmps := ((#[9, 10] : Array Tmp).zip (#[Value.int .i64 (k : Int), .agg (vx k).toArray] : Array Value)).foldl (fun t (p, v) => t.setIfInBounds p v) a.tmps, defers := [] } : Act) = (a.put (some 9) (.int .i64 (k : Int))).put (some 10) (.agg (vx k).toArray) := fun k => by
      obtain ⟨tm, df⟩ := a
      simp only at hd
      subst hd
      simp [Act.put]
    have sim1 : Sim Tryz.f24.ntmps c1 fr a := sim.step s1
    have hz := mF zeroG
    obtain ⟨d, i, z, hu, hi, hzz, hzs, hsT⟩ := hz
    refine wp_mono (tq (n := Tryz.f24.ntmps) TkG_ok (ze (base := base)) i1 (m := 5) (lb := #[.pointer (some ⟨g, 0, none⟩)]) hv0 (enters_of Tryz.func80 (by kernel_rfl) rfl) (α := Nat) (encs := fun k => #[.int .i64 (k : Int), .agg (vx k).toArray]) (fun x => rfl)
      (hseq (fun k => k) (fun k hk => by rw [(hvx k).2.2 hk])) (p := 5) (size := 7) (ty := 38) (by omega) vx (fun k => cGv.enc (gs.getD k dfG)) (fun k => (hvx k).1) (fun k => rfl) (fun k z hz => ?_) (fun k => (hvx k).2.1)
      (fun k => put (put fr (some 9) (.p (.int .i64 (k : Int)))) (some 10) (.p (cGv.enc (gs.getD k dfG)))) (fun k => (a.put (some 9) (.int .i64 (k : Int))).put (some 10) (.agg (vx k).toArray)) (fun k => ⟨?_, by rw [put_defers, put_defers]; exact hd⟩)
      (fun l k W K hK => ?_) (H0G gs es) rfl (fun _ => rfl) (fun pre k e he => ?_) (fun pre => ?_) bG_plain (fun pre k hlt => ?_)
      (Q := fun e a2 w2 => e = .normal ∧ ∃ D fr2 H2 c2, a2.defers = [{ target := .collected D, args := #[] }] ∧ Step c1 w' c2 w2 ∧ Inv base c2 H2 w2 ∧ Sim Tryz.f24.ntmps c2 fr2 a2 ∧
          w2.heap[D]? = some (.deferred (some [])) ∧ w'.heap.size ≤ D ∧ vc TkG (zJ Tryz.prog gl0 Tryz.f24.ntmps cTG) (jc TkG lf24.results (fun r H => r = .omap 0 0 ∧ ∃ T', H = [⟨0, 0, false, ve (gs.map kvG), 0⟩] ++ T')) fr2 H2) ?_) ?_
    · simp only [Va.cells, cGv, dfG, PVal.cells] at hz
      simp only [List.mem_cons, List.not_mem_nil, or_false] at hz; rcases hz with rfl | rfl | rfl | rfl | rfl | rfl | rfl <;> rfl
    · refine (sim1.put (.p _ _ (.int _ _)) (some 9)).put (.p _ _ ?_) (some 10)
      obtain ⟨hl, hv, _⟩ := hvx k
      refine .agg _ _ hl (fun j z v h1 h2 => ?_) (fun z hz => ?_)
      · obtain ⟨v', h3, h4⟩ := hv j z h1
        rw [h2] at h3
        cases h3
        exact h4
      · simp only [Va.cells, dfG] at hz
        simp only [List.mem_cons, List.not_mem_nil, or_false] at hz; rcases hz with rfl | rfl | rfl | rfl | rfl | rfl | rfl <;> rfl
    · show cAG.wpIn (WR l) 4 Tryz.prog _ ({ tmps := ((#[9, 10] : Array Tmp).zip (#[Value.int .i64 (k : Int), .agg (vx k).toArray] : Array Value)).foldl (fun t (p, v) => t.setIfInBounds p v) a.tmps, defers := [] } : Act) W
      rw [eact, cAG_eq]
      refine sb iT.1 iT.2.1 iT.2.2 iR.1 iR.2.1 iR.2.2 hu hi hzz (by rw [hzs, hsT]) (by rw [hsT]; exact (hvx k).1) (fun v hv => ?_) (by simp [Act.put, hsz]) (by decide) (by simp [Act.put, hsz, Array.getD]) hK
      obtain ⟨j, hj, rfl⟩ := List.getElem_of_mem hv
      have hj' : j < (Gv.cells (gs.getD k dfG)).length := by rw [(hvx k).1] at hj; exact hj
      obtain ⟨v', h1, h2⟩ := (hvx k).2.1 j _ (List.getElem?_eq_getElem hj')
      rw [List.getElem?_eq_getElem hj] at h1
      cases h1
      refine (h2.one ?_).1
      have hz := List.getElem_mem hj'
      generalize (Gv.cells (gs.getD k dfG))[j] = z at hz
      simp only [Gv.cells, Va.cells, dfG] at hz
      simp only [List.mem_cons, List.not_mem_nil, or_false] at hz; rcases hz with rfl | rfl | rfl | rfl | rfl | rfl | rfl <;> rfl
    · match k, he with
      | 0, he => simp [H0G] at he; subst he; exact ⟨_, rfl, rfl, rfl⟩
      | 1, he => simp [H0G] at he; subst he; exact ⟨_, rfl, rfl, rfl⟩
      | 2, he => simp [H0G] at he; subst he; exact ⟨_, rfl, rfl, rfl⟩
      | k + 3, he => simp [H0G] at he
    · intro e he x hx y hy
      simp only [H0G, List.mem_cons, List.not_mem_nil, or_false] at he
      rcases he with rfl | rfl | rfl
      · have : ∃ k z, x = qb k z := by
          have hm : ∀ (pre : List Nat) (m : List AVal), (∀ x ∈ m, ∃ k z, x = qb k z) → ∀ x ∈ pre.foldl (fun m k => wE (kvG (gs.getD k dfG)).1 (kvG (gs.getD k dfG)).2 m) m, ∃ k z, x = qb k z := by
            intro pre
            induction pre with
            | nil => intro m hm; exact hm
            | cons a r ih => intro m hm; exact ih _ (kU _ _ m hm)
          exact hm pre [] (by simp) x hx
        obtain ⟨k, z, rfl⟩ := this
        simp only [qb, AVal.cells, PVal.cells, List.mem_map] at hy
        obtain ⟨u, _, rfl⟩ := hy
        exact .p _
      · simp at hx
        subst hx
        simp [AVal.cells] at hy
        subst hy
        exact .omap _ _ (by simp [H0G])
      · simp at hx
        subst hx
        simp [AVal.cells] at hy
        obtain ⟨u, _, rfl⟩ := hy
        exact .p _
    · rw [bG_low]
      simp [lBG, H0G, Va.cells, cGv, dfG, h3, List.foldl_append, kvG, Va.enc, Va.cells]
    · intro xs D c' w2 hS hD st2 iv2 hK
      subst hS
      refine ⟨rfl, D, fr, _, c', by simp [hd], st2, iv2, sim1.step st2, hK, hD, ?_⟩
      have hall := H0G_all gs
      rw [← hel] at hall
      rw [tG]
      simp only [H0G, hall]
      simp [LG, ko, lf24, h3, jc]
    · rintro e a2 w2 ⟨rfl, D, fr2, H2, c2, h1, h2, h3, h4, h5, h6, h7⟩
      exact ⟨rfl, D, fr2, H2, c2, h1, s1.trans h2, h3, h4, h5, h6, h7⟩
  · obtain ⟨rfl, T', rfl⟩ := hq
    obtain ⟨c2, s2, i2, r2⟩ := eO hloc st i' rp (fun e he x hx y hy => by
      simp at he
      subst he
      obtain ⟨k, z, rfl⟩ := kI _ x hx
      simp only [qb, AVal.cells, PVal.cells, List.mem_map] at hy
      obtain ⟨u, _, rfl⟩ := hy
      exact .p _) (.omap _ _ (by simp))
    exact ⟨v, c2, he, s2, i2, r2⟩
end
end Go.Proofs.YtgbjjikaenlkmaaGreat

namespace Go.Proofs.YtgbjjikaenlkmaaGreat
open Go Go.Abs Go.Limbs Go.RowKit
variable {base : Prot}
set_option maxRecDepth 20000
def Vr.cells (g : Vr) : List PVal := [.int .i64 g.id, .int .i64 g.k]
section
attribute [local irreducible] vc
attribute [local simp] za zh freezeL fuel zk
def sBkV : List PVal → Option (AVal × zb)
  | [.lst es] => some (.clo 67 [.optr 0 0 0 0], [⟨1, 0, false, [.p (.lst es)], 24⟩])
  | _ => none
theorem bkV_ok : zH Tryz.prog base 39 sBkV := by
  refine ⟨qp low39, fun args r E hs c w vs hI hr => ?_⟩
  unfold sBkV at hs
  split at hs
  case h_2 => cases hs
  rename_i es
  cases hs
  refine (vt zE Tab.none_ok ze low39 (Q := fun r H => r = .clo 67 [.optr 0 0 0 0] ∧ H = [⟨1, 0, false, [.p (.lst es)], 24⟩]) (by simp [lf39]) hI hr (fun _ => ?_)).mono fun e w' ⟨v, r2, H2, c', he, hq, st, i', rp⟩ => ?_
  · simp [lf39, jc, tF, jd]
  · obtain ⟨rfl, rfl⟩ := hq
    exact ⟨v, c', he, st, i', rp⟩
end
noncomputable def bdV : Code := (Tryz.f20.body).getD .skip
noncomputable def c0V : Code := nG bdV
noncomputable def c1V : Code := nG (ku bdV)
noncomputable def cRV : Code := nG (nG (ku (ku bdV)))
noncomputable def cTV : Code := ku (ku (ku bdV))
noncomputable def cAV : Code := rngA1 (blkC1 (ku (nG (ku (ku bdV)))))
noncomputable def cBV : Code := rngB1 (blkC1 (ku (nG (ku (ku bdV)))))
theorem bodyV : Tryz.f20.body = some (seqs [c0V, c1V] ((cRV.seq (.block 0 (.rangeFunc (.tmp 8) #[9, 10] cAV cBV))).seq cTV)) := by kernel_rfl
def LV : LCode := lf20.body
theorem preV : [c0V, c1V].map (zJ Tryz.prog gl0 Tryz.f20.ntmps) = [cx LV, cx (ko LV)] := by kernel_rfl
theorem rV : zJ Tryz.prog gl0 Tryz.f20.ntmps cRV = cx (cx (ko (ko LV))) := by kernel_rfl
theorem tV : zJ Tryz.prog gl0 Tryz.f20.ntmps cTV = ko (ko (ko LV)) := by kernel_rfl
def lBV : LCode := .block 1 (
   .region [
     ⟨(some 11), none, .load 1 false (.tmp 3)⟩,
     ⟨(some 12), none, .fadr 0 (.tmp 5)⟩,
     ⟨(some 13), none, .load 1 false (.tmp 12)⟩,
     ⟨(some 14), none, .fadr 1 (.tmp 5)⟩,
     ⟨(some 15), none, .load 1 false (.tmp 14)⟩,
     ⟨none, none, .mset (.tmp 11) (.tmp 13) (.tmp 15)⟩])
theorem bV_low : zJ Tryz.prog gl0 Tryz.f20.ntmps cBV = lBV := by kernel_rfl
theorem bV_plain : qG cBV = true := by kernel_rfl
theorem resV : zN (jq Tryz.prog Tryz.f20.ntmps) Tryz.f20.results.toList = some lf20.results := by kernel_rfl
noncomputable def o1V : Oper := opAt cAV 0
noncomputable def o2V : Oper := opAt cAV 1
theorem cAV_eq : cAV = .region 3 #[o1V, o2V] false := by kernel_rfl
theorem iS : o1V.op = .alloc 29 ∧ o1V.dst = some 5 ∧ o1V.guard = none := ⟨by kernel_rfl, by kernel_rfl, by kernel_rfl⟩
theorem iQ : o2V.op = .store 29 (.tmp 5) (.tmp 10) ∧ o2V.dst = none ∧ o2V.guard = none := ⟨by kernel_rfl, by kernel_rfl, by kernel_rfl⟩
theorem zeroV : dC Tryz.prog 29 2 = true := by kernel_rfl
def kvV (g : Vr) : Int × PVal := (g.id, .int .i64 g.k)
def dfV : Vr := ⟨0, 0⟩
def zvV : List Value := [.int .i64 0, .int .i64 0]
theorem zvV_rep (pr : Prot) : ∀ (j : Nat) z, (Vr.cells dfV)[j]? = some z → ∃ v, zvV[j]? = some v ∧ PRep pr z v := by
  intro j z h
  have hl : ∀ k, PRep pr (.lst []) (.slice none 0 0) := fun k => .lst [] none 0 0 k 0 0 (fun _ _ => default) rfl (Nat.le_refl _) (by decide) (by simp) (by simp) (by simp) (by simp) (by simp)
  match j, h with
  | 0, h => simp [Vr.cells, dfV] at h; subst h; exact ⟨_, rfl, .int _ _⟩
  | 1, h => simp [Vr.cells, dfV] at h; subst h; exact ⟨_, rfl, .int _ _⟩
  | j + 2, h => simp [Vr.cells, dfV] at h
def mN : List PVal → Option (AVal × zb)
  | [.lst es] => match ju cVr.dec es with
    | some gs => if gs.length ≤ 1000000000 then some (.omap 0 0, [⟨0, 0, false, ve (gs.map kvV), 0⟩]) else none
    | none => none
  | _ => none
def TkV : Tab := Tab.none.with 39 sBkV
theorem TkV_ok : TabOk Tryz.prog base TkV := Tab.with_ok Tab.none_ok bkV_ok
theorem TkV_fns : TkV.fn 39 = sBkV := (rfl)
theorem TkV_mu (f : FuncId) (a : List AVal) (H : zb) : TkV.mu f a H = none := (rfl)
def H0V (gs : List Vr) (es : List PVal) (pre : List Nat) : zb := [⟨0, 0, false, pre.foldl (fun m k => wE (kvV (gs.getD k dfV)).1 (kvV (gs.getD k dfV)).2 m) [], 0⟩, ⟨1, 0, false, [.omap 0 0], 81⟩, ⟨1, 0, true, [.p (.lst es)], 24⟩]
theorem H0V_all (gs : List Vr) : (upto (fun j => gs.length - 1 - j) gs.length).foldl (fun m k => wE (kvV (gs.getD k dfV)).1 (kvV (gs.getD k dfV)).2 m) [] = ve (gs.map kvV) := by
  have e : upto (fun j => gs.length - 1 - j) gs.length = (List.range gs.length).reverse := by
    apply List.ext_getElem?
    intro j
    unfold upto
    by_cases hj : j < gs.length
    · simp [hj]
    · rw [List.getElem?_eq_none (by simp; omega), List.getElem?_eq_none (by simp; omega)]
  rw [e, List.foldl_reverse]
  unfold ve
  rw [List.foldr_map]
  have e2 : gs = (List.range gs.length).map (fun k => gs.getD k dfV) := by
    apply List.ext_getElem?
    intro j
    by_cases hj : j < gs.length
    · simp [hj]
    · rw [List.getElem?_eq_none (by omega), List.getElem?_eq_none (by simp; omega)]
  conv => rhs; rw [e2]
  rw [List.foldr_map]
section
attribute [local irreducible] vc
attribute [local simp] za zh freezeL fuel zk
theorem zao : zH Tryz.prog base 20 mN := by
  refine ⟨qp low20, fun args r E hs c w vs hI hr => ?_⟩
  unfold mN at hs
  split at hs
  case h_2 => cases hs
  rename_i es
  split at hs
  case h_2 => cases hs
  rename_i gs hg
  split at hs
  case isFalse => cases hs
  rename_i hlen
  cases hs
  obtain ⟨rfl, wgs⟩ := cVr.edL _ _ hg
  obtain ⟨es, hes⟩ : ∃ t, t = gs.map cVr.enc := ⟨_, rfl⟩
  rw [← hes] at hr
  have hel : es.length = gs.length := by rw [hes]; simp
  have hloc : c.locs = [] := List.length_eq_zero_iff.1 (by rw [hI.len]; rfl)
  have hagg : ∀ x ∈ es, x.isAgg = true ∧ x.cells.length = 2 := fun x hx => by
    rw [hes] at hx
    obtain ⟨g, _, rfl⟩ := List.mem_map.1 hx
    exact ⟨rfl, rfl⟩
  refine (bI (T := TkV) zE TkV_ok ze Tryz.func20 bodyV resV (args := [(.lst es : PVal)].map AVal.p) (H := []) (Q := fun r H => r = .omap 0 0 ∧ ∃ T', H = [⟨0, 0, false, ve (gs.map kvV), 0⟩] ++ T') (by simp [Tryz.ntmps20]) hI hr
    (fun fr H => fr 3 = .optr 1 0 0 0 ∧ fr 8 = .clo 67 [.optr 2 0 0 0] ∧ H = [⟨0, 0, false, [], 0⟩, ⟨1, 0, false, [.omap 0 0], 81⟩, ⟨1, 0, false, [.p (.lst es)], 24⟩]) ?_ ?_).mono fun e w' ⟨v, r, H', c', he, hq, st, i', rp⟩ => ?_
  · rw [preV, rV]
    simp [vcs, LV, cx, ko, lf20, TkV_mu, TkV_fns, sBkV, qX]
  · rintro fr H c' w' a ⟨h3, h8, hH⟩ st iv sim hd
    have hsz : a.tmps.size = 17 := sim.1
    have rt := sim.2 8 (by rw [Tryz.ntmps20]; decide)
    rw [h8] at rt
    obtain ⟨v0, hv0, r0⟩ : ∃ v0, a.tmps.getD 8 undef = .func (.func 67) #[] #[v0] ∧ Rep c' (.optr 2 0 0 0) v0 := by
      generalize a.tmps.getD 8 undef = v at rt
      cases rt with
      | clo _ _ vs hl hr =>
        match vs, hl, hr with
        | [v0], _, hr => exact ⟨v0, rfl, hr 0 _ _ rfl rfl⟩
    have hk : H[2]? = some ⟨1, 0, false, [.p (.lst es)], 24⟩ := by rw [hH]; rfl
    obtain ⟨l, hl, he⟩ := iv.loc hk
    obtain ⟨hmp, g, cap, hp, rfl⟩ : l.mp = false ∧ ∃ g cap, l.place = some (g, cap) ∧ v0 = .pointer (some ⟨g, 0, none⟩) := by
      cases r0 with
      | optr _ _ _ _ l2 _ hl2 hv2 hh ho =>
        rw [hl] at hl2
        cases hl2
        obtain ⟨hm, g, cap, h1, h2⟩ := hh he.ver.symm
        exact ⟨hm, g, cap, h1, by simpa using h2⟩
    obtain ⟨cur, ty2, hh, _, _, _, hcur, _⟩ := he.there g cap hp hmp
    obtain ⟨sv, hsv, rsv⟩ := hcur 0 (.p (.lst es)) 0 (.p (.lst es)) rfl rfl
    simp only [Nat.zero_mul, Nat.zero_add] at hsv
    have hcell : w'.cell? ⟨g, 0, none⟩ = some sv := by
      unfold World.cell?
      simp [hh, hsv]
    obtain ⟨c1, e1, s1, i1, pm⟩ := iv.freeze1 2
    have hpr : c1.prot g 0 = some sv := (pm _ _ _ _ hk (by rw [e1]; exact hl) hp hmp 0 (by simp)).trans hcell
    have psv : PRep c1.prot (.lst es) sv := by
      cases rsv with
      | p _ _ h => exact h.mono s1.prot
    have hF : Abs.freeze1 H 2 = H0V gs es [] := by rw [hH]; rfl
    rw [hF] at i1
    obtain ⟨vals, hvals, hseq⟩ := bV_stops 5 g es hagg sv c1.prot (by omega) hpr psv w' (fun b o v hv => ⟨i1.prot b o v hv, i1.prot_lt hv⟩)
    have hval : ∀ k, k < es.length → ∃ us : List Value, vals k = .agg us.toArray ∧ us.length = 2 ∧ ∀ (j : Nat) z, (Vr.cells (gs.getD k dfV))[j]? = some z → ∃ v, us[j]? = some v ∧ PRep c1.prot z v := fun k hk => by
      have hg : gs[k]? = some (gs.getD k dfV) := by
        rw [List.getD_eq_getElem?_getD]
        rw [List.getElem?_eq_getElem (by omega)]
        rfl
      have hx : es[k]? = some (cVr.enc (gs.getD k dfV)) := by rw [hes, List.getElem?_map, hg]; rfl
      have := hvals k _ hx
      have he : cVr.enc (gs.getD k dfV) = .agg (Vr.cells (gs.getD k dfV)) := rfl
      rw [he] at this
      generalize vals k = vk at this
      cases this with
      | agg _ us hl hr hk =>
        refine ⟨us, rfl, hl, fun j z hz => ?_⟩
        have hj := (List.getElem?_eq_some_iff.1 hz).1
        exact ⟨us[j], by simp, hr j z _ hz (by simp)⟩
    obtain ⟨vx, hvx⟩ : ∃ vx : Nat → List Value, ∀ k, (vx k).length = 2 ∧ (∀ (j : Nat) z, (Vr.cells (gs.getD k dfV))[j]? = some z → ∃ v, (vx k)[j]? = some v ∧ PRep c1.prot z v) ∧ (k < es.length → vals k = .agg (vx k).toArray) := by
      have : ∀ k, ∃ us : List Value, us.length = 2 ∧ (∀ (j : Nat) z, (Vr.cells (gs.getD k dfV))[j]? = some z → ∃ v, us[j]? = some v ∧ PRep c1.prot z v) ∧ (k < es.length → vals k = .agg us.toArray) := fun k => by
        by_cases hk : k < es.length
        · obtain ⟨us, h1, h2, h3⟩ := hval k hk
          exact ⟨us, h2, h3, fun _ => h1⟩
        · refine ⟨zvV, rfl, ?_, fun h => absurd h hk⟩
          rw [List.getD_eq_getElem?_getD, List.getElem?_eq_none (by omega)]
          exact zvV_rep c1.prot
      exact ⟨fun k => (this k).choose, fun k => (this k).choose_spec⟩
    have eact : ∀ k : Nat, ({ tmps := ((#[9, 10] : Array Tmp).zip (#[Value.int .i64 (k : Int), .agg (vx k).toArray] : Array Value)).foldl (fun t (p, v) => t.setIfInBounds p v) a.tmps, defers := [] } : Act) = (a.put (some 9) (.int .i64 (k : Int))).put (some 10) (.agg (vx k).toArray) := fun k => by
      obtain ⟨tm, df⟩ := a
      simp only at hd
      subst hd
      simp [Act.put]
    have sim1 : Sim Tryz.f20.ntmps c1 fr a := sim.step s1
    have hz := mF zeroV
    obtain ⟨d, i, z, hu, hi, hzz, hzs, hsT⟩ := hz
    refine wp_mono (tq (n := Tryz.f20.ntmps) TkV_ok (ze (base := base)) i1 (m := 5) (lb := #[.pointer (some ⟨g, 0, none⟩)]) hv0 (enters_of Tryz.func67 (by kernel_rfl) rfl) (α := Nat) (encs := fun k => #[.int .i64 (k : Int), .agg (vx k).toArray]) (fun x => rfl)
      (hseq (fun k => k) (fun k hk => by rw [(hvx k).2.2 hk])) (p := 5) (size := 2) (ty := 29) (by omega) vx (fun k => cVr.enc (gs.getD k dfV)) (fun k => (hvx k).1) (fun k => rfl) (fun k z hz => ?_) (fun k => (hvx k).2.1)
      (fun k => put (put fr (some 9) (.p (.int .i64 (k : Int)))) (some 10) (.p (cVr.enc (gs.getD k dfV)))) (fun k => (a.put (some 9) (.int .i64 (k : Int))).put (some 10) (.agg (vx k).toArray)) (fun k => ⟨?_, by rw [put_defers, put_defers]; exact hd⟩)
      (fun l k W K hK => ?_) (H0V gs es) rfl (fun _ => rfl) (fun pre k e he => ?_) (fun pre => ?_) bV_plain (fun pre k hlt => ?_)
      (Q := fun e a2 w2 => e = .normal ∧ ∃ D fr2 H2 c2, a2.defers = [{ target := .collected D, args := #[] }] ∧ Step c1 w' c2 w2 ∧ Inv base c2 H2 w2 ∧ Sim Tryz.f20.ntmps c2 fr2 a2 ∧
          w2.heap[D]? = some (.deferred (some [])) ∧ w'.heap.size ≤ D ∧ vc TkV (zJ Tryz.prog gl0 Tryz.f20.ntmps cTV) (jc TkV lf20.results (fun r H => r = .omap 0 0 ∧ ∃ T', H = [⟨0, 0, false, ve (gs.map kvV), 0⟩] ++ T')) fr2 H2) ?_) ?_
    · simp only [cVr, dfV, PVal.cells] at hz
      simp only [List.mem_cons, List.not_mem_nil, or_false] at hz; rcases hz with rfl | rfl <;> rfl
    · refine (sim1.put (.p _ _ (.int _ _)) (some 9)).put (.p _ _ ?_) (some 10)
      obtain ⟨hl, hv, _⟩ := hvx k
      refine .agg _ _ hl (fun j z v h1 h2 => ?_) (fun z hz => ?_)
      · obtain ⟨v', h3, h4⟩ := hv j z h1
        rw [h2] at h3
        cases h3
        exact h4
      · simp only [dfV] at hz
        simp only [List.mem_cons, List.not_mem_nil, or_false] at hz; rcases hz with rfl | rfl <;> rfl
    · show cAV.wpIn (WR l) 4 Tryz.prog _ ({ tmps := ((#[9, 10] : Array Tmp).zip (#[Value.int .i64 (k : Int), .agg (vx k).toArray] : Array Value)).foldl (fun t (p, v) => t.setIfInBounds p v) a.tmps, defers := [] } : Act) W
      rw [eact, cAV_eq]
      refine sb iS.1 iS.2.1 iS.2.2 iQ.1 iQ.2.1 iQ.2.2 hu hi hzz (by rw [hzs, hsT]) (by rw [hsT]; exact (hvx k).1) (fun v hv => ?_) (by simp [Act.put, hsz]) (by decide) (by simp [Act.put, hsz, Array.getD]) hK
      obtain ⟨j, hj, rfl⟩ := List.getElem_of_mem hv
      have hj' : j < (Vr.cells (gs.getD k dfV)).length := by rw [(hvx k).1] at hj; exact hj
      obtain ⟨v', h1, h2⟩ := (hvx k).2.1 j _ (List.getElem?_eq_getElem hj')
      rw [List.getElem?_eq_getElem hj] at h1
      cases h1
      refine (h2.one ?_).1
      have hz := List.getElem_mem hj'
      generalize (Vr.cells (gs.getD k dfV))[j] = z at hz
      simp only [Vr.cells, dfV] at hz
      simp only [List.mem_cons, List.not_mem_nil, or_false] at hz; rcases hz with rfl | rfl <;> rfl
    · match k, he with
      | 0, he => simp [H0V] at he; subst he; exact ⟨_, rfl, rfl, rfl⟩
      | 1, he => simp [H0V] at he; subst he; exact ⟨_, rfl, rfl, rfl⟩
      | 2, he => simp [H0V] at he; subst he; exact ⟨_, rfl, rfl, rfl⟩
      | k + 3, he => simp [H0V] at he
    · intro e he x hx y hy
      simp only [H0V, List.mem_cons, List.not_mem_nil, or_false] at he
      rcases he with rfl | rfl | rfl
      · have : ∃ k z, x = qb k z := by
          have hm : ∀ (pre : List Nat) (m : List AVal), (∀ x ∈ m, ∃ k z, x = qb k z) → ∀ x ∈ pre.foldl (fun m k => wE (kvV (gs.getD k dfV)).1 (kvV (gs.getD k dfV)).2 m) m, ∃ k z, x = qb k z := by
            intro pre
            induction pre with
            | nil => intro m hm; exact hm
            | cons a r ih => intro m hm; exact ih _ (kU _ _ m hm)
          exact hm pre [] (by simp) x hx
        obtain ⟨k, z, rfl⟩ := this
        simp only [qb, AVal.cells, PVal.cells, List.mem_map] at hy
        obtain ⟨u, _, rfl⟩ := hy
        exact .p _
      · simp at hx
        subst hx
        simp [AVal.cells] at hy
        subst hy
        exact .omap _ _ (by simp [H0V])
      · simp at hx
        subst hx
        simp [AVal.cells] at hy
        obtain ⟨u, _, rfl⟩ := hy
        exact .p _
    · rw [bV_low]
      simp [lBV, H0V, cVr, dfV, h3, List.foldl_append, kvV]
    · intro xs D c' w2 hS hD st2 iv2 hK
      subst hS
      refine ⟨rfl, D, fr, _, c', by simp [hd], st2, iv2, sim1.step st2, hK, hD, ?_⟩
      have hall := H0V_all gs
      rw [← hel] at hall
      rw [tV]
      simp only [H0V, hall]
      simp [LV, ko, lf20, h3, jc]
    · rintro e a2 w2 ⟨rfl, D, fr2, H2, c2, h1, h2, h3, h4, h5, h6, h7⟩
      exact ⟨rfl, D, fr2, H2, c2, h1, s1.trans h2, h3, h4, h5, h6, h7⟩
  · obtain ⟨rfl, T', rfl⟩ := hq
    obtain ⟨c2, s2, i2, r2⟩ := eO hloc st i' rp (fun e he x hx y hy => by
      simp at he
      subst he
      obtain ⟨k, z, rfl⟩ := kI _ x hx
      simp only [qb, AVal.cells, PVal.cells, List.mem_map] at hy
      obtain ⟨u, _, rfl⟩ := hy
      exact .p _) (.omap _ _ (by simp))
    exact ⟨v, c2, he, s2, i2, r2⟩
end
end Go.Proofs.YtgbjjikaenlkmaaGreat

namespace Go.Proofs.YtgbjjikaenlkmaaGreat
open Go Go.Abs Go.Limbs
variable {base : Prot}
set_option maxRecDepth 20000
attribute [local irreducible] vc
attribute [local simp] za zh freezeL fuel zk u64 au
def jm (a b : Va) : Bool := decide (a.k = b.k) && (if a.k = 0 then a.b == b.b else if a.k = 1 then sZ a.x b.x else decide (a.el = b.el))
def qA (a b : Va) : Option PVal := some (.bool (jm a b))
theorem pH (a : Va) : jm a a = true := by
 unfold jm
 rw [sameF_iff]
 split
 ·simp
 ·split <;> simp
def Tsv1 : Tab := Tab.none.with 81 (za (f2 yQ))
theorem Tsv1_ok : TabOk Tryz.prog base Tsv1 := Tab.with_ok Tab.none_ok lalike_ok
theorem Tsv1_mu (f : FuncId) (a : List AVal) (H : zb) : Tsv1.mu f a H = none := (rfl)
theorem Tsv1_fns : Tsv1.fn 81 = (za (f2 yQ)) := (rfl)
theorem oh : zH Tryz.prog base 49 (za (sp2 cVa cVa qA)) := by
 refine zd zE Tsv1_ok ze low49 fun args z hs hf => ?_
 obtain ⟨x, y, wx, wy, rfl, hz⟩ := kJ hs
 cases hz
 have h1 := eM (g := yQ) (show x.x.wf from wx) (show y.x.wf from wy)
 obtain ⟨k, b, ⟨s, n, d⟩, e⟩ := x
 obtain ⟨k', b', ⟨s', n', d'⟩, e'⟩ := y
 refine ⟨by simp [lf49], ?_⟩
 simp only [Fr.enc, yQ] at h1
 simp only [cVa, Va.enc, Va.cells, jm]
 by_cases hk : k = k'
 ·subst hk
  by_cases k0 : k = 0
  ·subst k0
   cases b <;> cases b' <;> simp [lf49]
  ·have k0' : (k == 0) = false := by simpa using k0
   by_cases k1 : k = 1
   ·subst k1
    simp [lf49, h1, Tsv1_mu, Tsv1_fns]
   ·have k1' : (k == 1) = false := by simpa using k1
    simp [lf49, k0, k1, k0', k1', (show (e == e') = decide (e = e') from rfl)]
 ·have hk' : (k != k') = true := by simpa using hk
  simp [lf49, hk, hk']
def Tsv2 : Tab := Tab.none.with 36 (za (f2 yQ))
theorem Tsv2_ok : TabOk Tryz.prog base Tsv2 := Tab.with_ok Tab.none_ok rsame_ok
theorem Tsv2_mu (f : FuncId) (a : List AVal) (H : zb) : Tsv2.mu f a H = none := (rfl)
theorem Tsv2_fns : Tsv2.fn 36 = (za (f2 yQ)) := (rfl)
theorem tn : zH Tryz.prog base 13 (za (sp2 cVa cVa qA)) := by
 refine zd zE Tsv2_ok ze low13 fun args z hs hf => ?_
 obtain ⟨x, y, wx, wy, rfl, hz⟩ := kJ hs
 cases hz
 have h1 := eM (g := yQ) (show x.x.wf from wx) (show y.x.wf from wy)
 obtain ⟨k, b, ⟨s, n, d⟩, e⟩ := x
 obtain ⟨k', b', ⟨s', n', d'⟩, e'⟩ := y
 refine ⟨by simp [lf13], ?_⟩
 simp only [Fr.enc, yQ] at h1
 simp only [cVa, Va.enc, Va.cells, jm]
 by_cases hk : k = k'
 ·subst hk
  by_cases k0 : k = 0
  ·subst k0
   cases b <;> cases b' <;> simp [lf13]
  ·have k0' : (k == 0) = false := by simpa using k0
   by_cases k1 : k = 1
   ·subst k1
    simp [lf13, h1, Tsv2_mu, Tsv2_fns]
   ·have k1' : (k == 1) = false := by simpa using k1
    simp [lf13, k0, k1, k0', k1', (show (e == e') = decide (e = e') from rfl)]
 ·have hk' : (k != k') = true := by simpa using hk
  simp [lf13, hk, hk']
def qf : List Va → List Va → Bool
 | [], [] => true
 | a :: l, b :: m => jm a b && qf l m
 | _, _ => false
theorem pG : ∀ {l m : List Va}, qf l m = true → l.length = m.length
 | [], [], _ => rfl
 | a :: l, b :: m, h => by
  simp only [qf, Bool.and_eq_true] at h
  simp [pG h.2]
 | [], _ :: _, h => by cases h
 | _ :: _, [], h => by cases h
theorem cH : ∀ {l m : List Va}, l.length = m.length → (qf l m = true ↔ ∀ (i : Nat) a b, l[i]? = some a → m[i]? = some b → jm a b = true)
 | [], [], _ => by simp [qf]
 | a :: l, b :: m, h => by
  have ih := cH (l := l) (m := m) (by simpa using h)
  simp only [qf, Bool.and_eq_true, ih]
  constructor
  ·rintro ⟨h1, h2⟩ i x y hx hy
   cases i with
   | zero => simp at hx hy; subst hx; subst hy; exact h1
   | succ i => exact h2 i x y (by simpa using hx) (by simpa using hy)
  ·intro h
   exact ⟨h 0 a b rfl rfl, fun i x y hx hy => h (i + 1) x y (by simpa using hx) (by simpa using hy)⟩
 | [], _ :: _, h => by simp at h
 | _ :: _, [], h => by simp at h
def oA : List PVal → Option PVal
 | [.lst us, .lst vs, .clo 49 []] => match ju cVa.dec us with
  | some l => (match ju cVa.dec vs with | some m => some (.bool (qf l m)) | none => none)
  | none => none
 | _ => none
theorem sEqV_at {l m : List Va} (hl : cVa.wfL l) (hm : cVa.wfL m) : oA [.lst (l.map Va.enc), .lst (m.map Va.enc), .clo 49 []] = some (.bool (qf l m)) := by
 have h1 := cVa.deL l hl
 have h2 := cVa.deL m hm
 have e : cVa.enc = Va.enc := rfl
 rw [e] at h1 h2
 simp only [oA, h1, h2]
def Teqv : Tab := Tab.none.with 49 (za (sp2 cVa cVa qA))
theorem Teqv_ok : TabOk Tryz.prog base Teqv := Tab.with_ok Tab.none_ok oh
theorem Teqv_mu (f : FuncId) (a : List AVal) (H : zb) : Teqv.mu f a H = none := (rfl)
theorem aP : Teqv.fn 49 = (za (sp2 cVa cVa qA)) := (rfl)
theorem eqv_ok : zH Tryz.prog base 48 (za oA) := by
 refine zd zE Teqv_ok ze low48 fun args z hs hf => ?_
 unfold oA at hs
 split at hs
 case h_2 => cases hs
 rename_i us vs
 cases hl : ju cVa.dec us with
 | none => rw [hl] at hs; cases hs
 | some l =>
 rw [hl] at hs
 cases hm : ju cVa.dec vs with
 | none => rw [hm] at hs; cases hs
 | some m =>
 rw [hm] at hs
 cases hs
 obtain ⟨rfl, wl⟩ := cVa.edL _ _ hl
 obtain ⟨rfl, wm⟩ := cVa.edL _ _ hm
 have e : cVa.enc = Va.enc := rfl
 rw [e] at hf ⊢
 have hlen := (hf (.lst (l.map Va.enc)) (by simp)).lst.1
 unfold maxLen at hlen
 simp only [List.length_map] at hlen
 refine ⟨by simp [lf48], ?_⟩
 by_cases hlm : l.length = m.length
 ·have hl1 : ((l.length : Int) != m.length) = false := by simp [hlm]
  simp [lf48, hl1]
  simp only [lf48_B0, zr]
  refine zo (fun fr H => ∃ i : Nat, i ≤ l.length ∧ fr 1 = .p (.lst (m.map Va.enc)) ∧ fr 2 = .p (.clo 49 []) ∧ fr 15 = .p (.lst (l.map Va.enc)) ∧ fr 16 = .p (.int .i64 l.length) ∧ fr 17 = .p (.int .i64 i) ∧ ∀ (j : Nat) a b, j < i → l[j]? = some a → m[j]? = some b → jm a b = true) (fun fr _ => l.length - zA (fr 17)) ⟨0, by omega, by simp, by simp, by simp, by simp, by simp, by simp⟩ ?_
  rintro fr H ⟨i, hi, f1', f2', f15, f16, f17, hj⟩
  by_cases h : i < l.length
  ·obtain ⟨u, hx⟩ : ∃ u, l[i]? = some u := ⟨_, List.getElem?_eq_getElem h⟩
   have him : i < m.length := by omega
   obtain ⟨v, hy⟩ : ∃ v, m[i]? = some v := ⟨_, List.getElem?_eq_getElem him⟩
   have hnx := z3 hx
   have hny := z3 hy
   have hc := jD (g := qA) (wl u (List.mem_of_getElem? hx)) (wm v (List.mem_of_getElem? hy))
   simp only [e, Va.enc, Va.cells, qA] at hc
   have hw := zs (i := i) (by omega)
   cases he : jm u v with
   | true =>
    rw [he] at hc
    have hj' : ∀ (j : Nat) a b, j < i + 1 → l[j]? = some a → m[j]? = some b → jm a b = true := fun j a b hji ha hb => by
     by_cases hj0 : j = i
     ·subst hj0
      rw [hx] at ha
      rw [hy] at hb
      cases ha; cases hb
      exact he
     ·exact hj j a b (by omega) ha hb
    simp [f1', f2', f15, f16, f17, h, him, hnx, hny, Va.enc, Va.cells, hc, hw, zA, Teqv_mu, aP]
    exact ⟨⟨i + 1, by omega, rfl, hj'⟩, by omega⟩
   | false =>
    have hne : qf l m = false := by
     cases hh : qf l m with
     | false => rfl
     | true =>
      have := (cH hlm).1 hh i u v hx hy
      rw [he] at this
      cases this
    rw [he] at hc
    simp [f1', f2', f15, f16, f17, h, him, hnx, hny, Va.enc, Va.cells, hc, hne, Teqv_mu, aP]
  ·have hil : i = l.length := by omega
   subst hil
   have hxy : qf l m = true := (cH hlm).2 fun i a b ha hb => hj i a b (List.getElem?_eq_some_iff.1 ha).1 ha hb
   simp [f16, f17, hxy]
 ·have hl1 : ((l.length : Int) != m.length) = true := by simp; omega
  have hne : qf l m = false := by
   cases hh : qf l m with
   | false => rfl
   | true => exact absurd (pG hh) hlm
  simp [lf48, hl1, hne]
def m7 : List AVal → Option (List Int)
 | [] => some []
 | .p (.int .i64 n) :: r => match m7 r with | some l => some (n :: l) | none => none
 | _ :: _ => none
theorem rM : ∀ {es : List AVal} {l : List Int}, m7 es = some l → es = l.map fun n => .p (.int .i64 n)
 | [], l, h => by cases h; rfl
 | x :: r, l, h => by
  unfold m7 at h
  split at h
  ·rename_i heq; cases heq
  ·rename_i n r' heq
   cases heq
   split at h
   ·rename_i m hm
    cases h
    rw [List.map_cons, ← rM hm]
   ·cases h
  ·cases h
theorem tT : ∀ l : List Int, m7 (l.map fun n => .p (.int .i64 n)) = some l
 | [] => rfl
 | n :: r => by simp [m7, tT r]
def kp (es : List AVal) : List Int → Option (List Va)
 | [] => some []
 | n :: r => match qJ n es with
  | some y => (match cVa.dec y with
   | some v => (match kp es r with | some l => some (v :: l) | none => none)
   | none => none)
  | none => none
theorem uR {es : List AVal} : ∀ {ids : List Int} {vs : List Va}, kp es ids = some vs → vs.length = ids.length ∧ cVa.wfL vs ∧ ∀ (i : Nat) n v, ids[i]? = some n → vs[i]? = some v → qJ n es = some v.enc
 | [], vs, h => by
  cases h
  exact ⟨rfl, (by intro x hx; cases hx), by simp⟩
 | n :: r, vs, h => by
  unfold kp at h
  split at h
  ·rename_i y hy
   split at h
   ·rename_i v hv
    split at h
    ·rename_i l hl
     cases h
     obtain ⟨h1, h2, h3⟩ := uR hl
     obtain ⟨rfl, wv⟩ := cVa.ed _ _ hv
     refine ⟨by simp [h1], ?_, ?_⟩
     ·intro x hx
      rcases List.mem_cons.1 hx with rfl | hx
      ·exact wv
      ·exact h2 x hx
     ·intro i m u hm hu
      cases i with
      | zero => simp at hm hu; subst hm; subst hu; exact hy
      | succ i => exact h3 i m u (by simpa using hm) (by simpa using hu)
    ·cases h
   ·cases h
  ·cases h
def dP : List AVal → zb → Option (AVal × zb)
 | [.omap j ver, .own k 0 n v], H => match H[j]? with
  | some e => (match H[k]? with
   | some f => if e.ver = ver ∧ f.ver = v ∧ f.size = 1 ∧ n = f.elems.length ∧ n ≤ 1000000 ∧ 0 < n then
     (match m7 f.elems with
     | some ids => (match kp e.elems ids with
      | some vs => some (.p (.tup [.lst (vs.map Va.enc), .bool true]), H)
      | none => none)
     | none => none)
    else none
   | none => none)
  | none => none
 | _, _ => none
theorem zal : yO Tryz.prog base 27 dP := by
 refine iI zE Tab.none_ok ze low27 fun args H r H' hs hf hb => ?_
 unfold dP at hs
 split at hs
 case h_2 => cases hs
 rename_i j ver k n v
 cases hj : H[j]? with
 | none => rw [hj] at hs; cases hs
 | some e =>
 rw [hj] at hs
 simp only at hs
 cases hk : H[k]? with
 | none => rw [hk] at hs; cases hs
 | some f =>
 rw [hk] at hs
 simp only at hs
 split at hs
 case isFalse => cases hs
 rename_i hc
 cases hi : m7 f.elems with
 | none => rw [hi] at hs; cases hs
 | some ids =>
 rw [hi] at hs
 simp only at hs
 cases hl : kp e.elems ids with
 | none => rw [hl] at hs; cases hs
 | some vs =>
 rw [hl] at hs
 cases hs
 obtain ⟨h1, h2, h3, h4, h5, h6⟩ := hc
 have hfe := rM hi
 obtain ⟨l1, l2, l3⟩ := uR hl
 obtain ⟨fs, fv, ff, fe, ft⟩ := f
 simp only at h2 h3 h4 hfe
 subst h2 h3 hfe h1
 simp only [List.length_map] at h4
 subst h4
 refine ⟨by simp [lf27], rfl, hb, _, rfl, ?_⟩
 have hkl := (List.getElem?_eq_some_iff.1 hk).1
 have hjl := (List.getElem?_eq_some_iff.1 hj).1
 simp [lf27, hk]
 simp only [lf27_B0, zr]
 refine zo (fun fr G => ∃ i : Nat, i ≤ ids.length ∧ (∃ E, G = H ++ E) ∧ fr 0 = .omap j e.ver ∧ fr 10 = .own k 0 ids.length fv ∧ fr 11 = .p (.int .i64 ids.length) ∧ fr 12 = .p (.int .i64 i) ∧
  ((i = 0 ∧ fr 4 = .tight []) ∨ (0 < i ∧ ∃ m w, H.length ≤ m ∧ fr 4 = .own m 0 i w ∧ G[m]? = some ⟨6, w, false, (vs.take i).map (fun v => .p v.enc), 35⟩))) (fun fr _ => ids.length - zA (fr 12)) ⟨0, by omega, ⟨[], by simp⟩, by simp, by simp, by simp, by simp, .inl ⟨rfl, by simp⟩⟩ ?_
 rintro fr G ⟨i, hi', ⟨E, hE⟩, f0, f10, f11, f12, f4⟩
 have hGj : G[j]? = some e := by rw [hE, List.getElem?_append_left hjl]; exact hj
 have hGk : G[k]? = some ⟨1, fv, ff, ids.map (fun n => .p (.int .i64 n)), ft⟩ := by rw [hE, List.getElem?_append_left hkl]; exact hk
 have hjG : j < G.length := (List.getElem?_eq_some_iff.1 hGj).1
 have hkG : k < G.length := (List.getElem?_eq_some_iff.1 hGk).1
 by_cases h : i < ids.length
 ·obtain ⟨u, hx⟩ : ∃ u, ids[i]? = some u := ⟨_, List.getElem?_eq_getElem h⟩
  obtain ⟨y, hy⟩ : ∃ y, vs[i]? = some y := ⟨_, List.getElem?_eq_getElem (by omega)⟩
  have hnx := z3 hx
  have hmf := l3 i u y hx hy
  have hw := zs (i := i) (by omega)
  have hA : ∀ X, (G ++ X)[j]? = some e := fun X => by rw [List.getElem?_append_left hjG]; exact hGj
  have hC : ∀ x y : Ent, (G ++ [x]).set G.length y = G ++ [y] := fun x y => by rw [List.set_append_right _ _ (Nat.le_refl _)]; simp
  have hD : ∀ (y : Ent) r, (G ++ y :: r)[G.length]? = some y := fun y r => by simp
  have hE' : ∀ (y z : Ent) r, (G ++ y :: z :: r)[G.length + 1]? = some z := fun y z r => by rw [List.getElem?_append_right (by omega)]; simp
  have ht : (vs.take (i + 1)).map (fun v => (AVal.p v.enc)) = (vs.take i).map (fun v => .p v.enc) ++ [.p y.enc] := by rw [List.take_add_one, hy]; simp
  obtain ⟨ky, by', ⟨sy, ny, dy⟩, ey⟩ := y
  simp only [Va.enc, Va.cells] at hmf
  have hye : (AVal.p (Va.enc ⟨ky, by', ⟨sy, ny, dy⟩, ey⟩)) = .p (.agg [.int .i64 ky, .bool by', .bool sy, .lst (ny.map u64), .lst (dy.map u64), .int .i64 ey]) := rfl
  rw [hye] at ht
  obtain ⟨xs, hxs⟩ : ∃ t, t = ny.map u64 := ⟨_, rfl⟩
  obtain ⟨ys, hys⟩ : ∃ t, t = dy.map u64 := ⟨_, rfl⟩
  rw [← hxs, ← hys] at hmf ht
  have hmx : maxLen = 9223372036854775807 := rfl
  have hb1 : 1 ≤ maxLen := by omega
  obtain ⟨nn, hnn⟩ : ∃ nn, nn = ids.length := ⟨_, rfl⟩
  rw [← hnn] at h h5 h6 l1 hi' f10 f11 ⊢
  rcases f4 with ⟨rfl, f4⟩ | ⟨hi0, m, w, hm, f4, hGm⟩
  ·simp only [Nat.zero_add] at ht hw
   have hw1 : IntKind.i64.wrap 1 = 1 := IntWalk.i64_in _ (by omega)
   have hlG : H.length ≤ G.length + 2 := by rw [hE, List.length_append]; omega
   simp [f0, f10, f11, f12, f4, h, hGj, hGk, hx, hmf, hC, zO, hb1, zA, hw1]
   refine ⟨⟨1, by omega, ⟨E ++ [_, _, _], by rw [hE, List.append_assoc]⟩, rfl, by omega, _, hlG, _, ⟨rfl, rfl, rfl⟩, ?_⟩, by omega⟩
   rw [List.getElem?_append_right (by omega)]
   simp
   rw [← List.map_take, ht]
   rfl
  ·obtain ⟨L, hL⟩ : ∃ L, L = (vs.take i).map (fun v => (AVal.p v.enc)) := ⟨_, rfl⟩
   have hLl : L.length = i := by rw [hL]; simp; omega
   rw [← hL] at hGm ht
   have hmG : m < G.length := (List.getElem?_eq_some_iff.1 hGm).1
   have hM : ∀ X, (G ++ X)[m]? = some ⟨6, w, false, L, 35⟩ := fun X => by rw [List.getElem?_append_left hmG]; exact hGm
   have hb2 : (i + 1) * 80 ≤ 140737488355328 := by omega
   have hb3 : i + 1 ≤ maxLen := by omega
   simp [f0, f10, f11, f12, f4, h, hGj, hGk, hx, hmf, hw, hC, zO, hM, hLl, hb2, hb3, zA]
   refine ⟨⟨i + 1, by omega, ⟨_, by rw [hE, List.append_assoc, List.set_append_right _ _ hm]⟩, rfl, by omega, m, hm, _, ⟨rfl, rfl, rfl⟩, ?_⟩, by omega⟩
   rw [List.getElem?_set_self (by simp; omega), ← List.map_take, ht]
 ·have hil : i = ids.length := by omega
  subst hil
  rcases f4 with ⟨h0, f4⟩ | ⟨hi0, m, w, hm, f4, hGm⟩
  ·omega
  ·have hvt : vs.take ids.length = vs := List.take_of_length_le (by omega)
   rw [hvt] at hGm
   have hres : ∀ (n : Nat) (l : List Va), zN (zj G n) (l.map fun v => (AVal.p v.enc)) = some (l.map Va.enc) := fun n l => by
    induction l with
    | nil => rfl
    | cons a r ih => simp [zN, ih, zj]
   have htch : ∀ (n : Nat) (l : List Va), (l.map fun v => (AVal.p v.enc)).flatMap (zh G n) = [] := fun n l => by
    induction l with
    | nil => rfl
    | cons a r ih => rw [List.map_cons, List.flatMap_cons, ih]; cases n <;> simp [zh]
   simp [f11, f12, f4]
   refine ⟨.tup [.own m 0 ids.length w, .p (.bool true)], E, ?_, hE, ?_, ?_⟩
   ·simp [finish, zN, qI, jd]
   ·simp [zj, zN, hGm, l1, hres, List.take_of_length_le]
   ·simp [zh, hGm, htch, hm, List.take_of_length_le, l1]
theorem jM (H l : zb) (i : Nat) : (H ++ l)[H.length + i]? = l[i]? := by rw [List.getElem?_append_right (by omega)]; congr 1; omega
theorem z5 (H l : zb) : (H ++ l)[H.length]? = l[0]? := jM H l 0
theorem setT (H l : zb) (i : Nat) (x : Ent) : (H ++ l).set (H.length + i) x = H ++ l.set i x := by rw [List.set_append_right _ _ (by omega)]; congr 2; omega
def yK (es : List AVal) (a b : Md) : Option Bool :=
 if a.f = b.f ∧ a.ag.length = b.ag.length then
  match kp es (a.id :: a.ag) with
  | some (x :: xs) => (match kp es (b.id :: b.ag) with
   | some (y :: ys) => some (qf xs ys && !jm x y)
   | _ => none)
  | _ => none
 else some false
def Md.few (m : Md) : Bool := decide (m.ag.length < 100000)
def pU : List AVal → zb → Option (AVal × zb)
 | [.omap j ver, .p a, .p b], H => match H[j]? with
  | some e => if e.ver = ver then
    (match cMd.dec a with
    | some x => (match cMd.dec b with
     | some y => if (x.few && y.few) = true then
       (match yK e.elems x y with
       | some r => some (.p (.bool r), H)
       | none => none)
      else none
     | none => none)
    | none => none)
   else none
  | none => none
 | _, _ => none
def Tcl0 : Tab := (Tab.none.with 48 (za oA)).with 49 (za (sp2 cVa cVa qA))
theorem Tcl0_ok : TabOk Tryz.prog base Tcl0 := Tab.with_ok (Tab.with_ok Tab.none_ok eqv_ok) oh
def Tcl : Tab := Tcl0.own 27 dP
theorem Tcl_ok : TabOk Tryz.prog base Tcl := Tab.own_ok Tcl0_ok zal
theorem Tcl_fns : Tcl.fn 48 = za oA ∧ Tcl.fn 49 = za (sp2 cVa cVa qA) := ⟨rfl, rfl⟩
def il := dP
theorem Tcl_mu (a : List AVal) (H : zb) : Tcl.mu 27 a H = il a H ∧ Tcl.mu 48 a H = none ∧ Tcl.mu 49 a H = none := ⟨rfl, rfl, rfl⟩
theorem om {H : zb} {j k ver v n : Nat} {e : Ent} {fz : Bool} {ty : TypeId} {ids : List Int} {vs : List Va} {es : List AVal} (hj : H[j]? = some e) (hv : e.ver = ver) (hk : H[k]? = some ⟨1, v, fz, es, ty⟩) (he : es = ids.map (fun n => .p (.int .i64 n))) (hn : n = ids.length) (h1 : ids.length ≤ 1000000) (h0 : 0 < ids.length)
  (hl : kp e.elems ids = some vs) : dP [.omap j ver, .own k 0 n v] H = some (.p (.tup [.lst (vs.map Va.enc), .bool true]), H) := by
 subst he hn
 simp only [dP, hj, hk]
 rw [if_pos ⟨hv, trivial, trivial, by simp, h1, h0⟩]
 simp only [tT, hl]
theorem clash_ok : yO Tryz.prog base 25 pU := by
 refine qY zE Tcl_ok ze low25 fun args H r H' hs hf hb => ?_
 unfold pU at hs
 split at hs
 case h_2 => cases hs
 rename_i j ver a b
 cases hj : H[j]? with
 | none => rw [hj] at hs; cases hs
 | some e =>
 rw [hj] at hs
 simp only at hs
 split at hs
 case isFalse => cases hs
 rename_i hver
 cases ha : cMd.dec a with
 | none => rw [ha] at hs; cases hs
 | some x =>
 rw [ha] at hs
 simp only at hs
 cases hbb : cMd.dec b with
 | none => rw [hbb] at hs; cases hs
 | some y =>
 rw [hbb] at hs
 simp only at hs
 split at hs
 case isFalse => cases hs
 rename_i hfew
 cases hcl : yK e.elems x y with
 | none => rw [hcl] at hs; cases hs
 | some q =>
 rw [hcl] at hs
 cases hs
 obtain ⟨rfl, _⟩ := cMd.ed _ _ ha
 obtain ⟨rfl, _⟩ := cMd.ed _ _ hbb
 refine ⟨by simp [lf25], rfl, hb, .p _, ?_⟩
 obtain ⟨xi, xf, xa⟩ := x
 obtain ⟨yi, yf, ya⟩ := y
 simp only [Md.few, Bool.and_eq_true, decide_eq_true_eq] at hfew
 obtain ⟨few1, few2⟩ := hfew
 unfold yK at hcl
 simp only [cMd]
 by_cases hne : xf = yf ∧ xa.length = ya.length
 ·rw [if_pos hne] at hcl
  obtain ⟨rfl, hla⟩ := hne
  cases hx : kp e.elems (xi :: xa) with
  | none => simp only [hx] at hcl; cases hcl
  | some vx =>
  simp only [hx] at hcl
  cases vx with
  | nil => simp at hcl
  | cons x0 xs =>
  simp only at hcl
  cases hy : kp e.elems (yi :: ya) with
  | none => simp only [hy] at hcl; cases hcl
  | some vy =>
  simp only [hy] at hcl
  cases vy with
  | nil => simp at hcl
  | cons y0 ys =>
  simp only [Option.some.injEq] at hcl
  obtain ⟨m1, w1, -⟩ := uR hx
  obtain ⟨m2, w2, -⟩ := uR hy
  have e0 : cVa.enc = Va.enc := rfl
  have hS := jD (g := qA) (w1 x0 (by simp)) (w2 y0 (by simp))
  have hE := sEqV_at (fun z hz => w1 z (by simp [hz])) (fun z hz => w2 z (by simp [hz])) (l := xs) (m := ys)
  rw [e0] at hS
  have hso : ∀ l : List Va, kM 6 (l.map Va.enc) = true := fun l => by
   unfold kM
   rw [List.all_eq_true]
   intro z hz
   obtain ⟨v, _, rfl⟩ := List.mem_map.1 hz
   rfl
  have hbs : yU .neq xf xf = some (.bool false) := by simp [yU]
  have hmx : maxLen = 9223372036854775807 := rfl
  have hb1 : 1 + ya.length ≤ maxLen := by omega
  have hb2 : (1 + ya.length) * 8 ≤ 140737488355328 := by omega
  have hv1 : ∀ (c1 c2 : Ent) X, il [.omap j ver, .own (H.length + 2) 0 (1 + ya.length) 1] (H ++ c1 :: c2 :: ⟨1, 1, false, .p (.int .i64 xi) :: xa.map fun n => .p (.int .i64 n), 3⟩ :: X) =
    some (.p (.tup [.lst (x0.enc :: xs.map Va.enc), .bool true]), H ++ c1 :: c2 :: ⟨1, 1, false, .p (.int .i64 xi) :: xa.map fun n => .p (.int .i64 n), 3⟩ :: X) := fun c1 c2 X =>
   om (by rw [List.getElem?_append_left (List.getElem?_eq_some_iff.1 hj).1]; exact hj) hver (jM _ _ 2) (ids := xi :: xa) rfl (by simp [hla]; omega) (by simp; omega) (by simp) hx
  have hv2 : ∀ (c1 c2 c3 : Ent) X, il [.omap j ver, .own (H.length + 3) 0 (1 + ya.length) 1] (H ++ c1 :: c2 :: c3 :: ⟨1, 1, false, .p (.int .i64 yi) :: ya.map fun n => .p (.int .i64 n), 3⟩ :: X) =
    some (.p (.tup [.lst (y0.enc :: ys.map Va.enc), .bool true]), H ++ c1 :: c2 :: c3 :: ⟨1, 1, false, .p (.int .i64 yi) :: ya.map fun n => .p (.int .i64 n), 3⟩ :: X) := fun c1 c2 c3 X =>
   om (by rw [List.getElem?_append_left (List.getElem?_eq_some_iff.1 hj).1]; exact hj) hver (jM _ _ 3) (ids := yi :: ya) rfl (by simp; omega) (by simp; omega) (by simp) hy
  have hint : cI.enc = fun n => .int .i64 n := rfl
  rw [hint]
  have hmm : ∀ l : List Int, (l.map ((AVal.p) ∘ fun n => PVal.int .i64 n)) = l.map fun n => .p (.int .i64 n) := fun l => rfl
  have hso1 := hso (x0 :: xs)
  have hso2 := hso (y0 :: ys)
  simp only [List.map_cons] at hso1 hso2
  simp only [Va.enc, Va.cells] at hso1 hso2 hS
  have g1 : (1 : Int) ≤ (xs.length : Int) + 1 := by omega
  have g2 : (1 : Int) ≤ (ys.length : Int) + 1 := by omega
  have g3 : List.take xs.length (xs.map Va.enc) = xs.map Va.enc := List.take_of_length_le (by simp)
  have g4 : List.take ys.length (ys.map Va.enc) = ys.map Va.enc := List.take_of_length_le (by simp)
  cases hq1 : qf xs ys <;> cases hq2 : jm x0 y0 <;> rw [hq1, hq2] at hcl <;> cases hcl <;> rw [hq1] at hE <;> (simp only [qA, hq2] at hS) <;> (simp [lf25, hla, zO, Tcl_mu, Tcl_fns, hbs, hb1, hb2, hv1, hv2, hmm, Va.enc, Va.cells, hso1, hso2, hE, hS, g1, g2, g3, g4, yw, finish, zN, qI, jd])
 ·rw [if_neg hne] at hcl
  cases hcl
  have hne' : xf = yf → ¬ xa.length = ya.length := fun h1 h2 => hne ⟨h1, h2⟩
  by_cases hff : xf = yf
  ·have hll : ((xa.length : Int) != ya.length) = true := by simp; have := hne' hff; omega
   have hbs : yU .neq yf yf = some (.bool false) := by simp [yU]
   simp [lf25, hff, hll, hbs, yw, finish, zN, qI]
  ·have hbs : yU .neq xf yf = some (.bool true) := by simp [yU, hff]
   simp [lf25, hbs, yw, finish, zN, qI]
def ub (es : List AVal) (a : Md) : List Md → Nat → Option (Option Nat)
 | [], _ => some none
 | b :: r, j => match yK es a b with
  | some true => some (some j)
  | some false => ub es a r (j + 1)
  | none => none
def vN (es : List AVal) : List Md → Nat → Option (Option (Nat × Nat))
 | [], _ => some none
 | a :: r, i => match ub es a r (i + 1) with
  | some (some j) => some (some (i, j))
  | some none => vN es r (i + 1)
  | none => none
def trip : Option (Nat × Nat) → PVal
 | some (i, j) => .tup [.int .i64 i, .int .i64 j, .bool true]
 | none => .tup [.int .i64 0, .int .i64 0, .bool false]
def dz (ms : List Md) (gs : List Gv) : Option PVal :=
 if (ms.all Md.few && decide (ms.length ≤ 1000000) && decide (gs.length ≤ 1000000)) = true then
  match vN (ve (gs.map kvG)) ms 0 with
  | some r => some (trip r)
  | none => none
 else none
def Tca0 : Tab := Tab.none.with 24 mO
theorem Tca0_ok : TabOk Tryz.prog base Tca0 := Tab.with_ok Tab.none_ok zap
def Tca : Tab := Tca0.own 25 pU
theorem Tca_ok : TabOk Tryz.prog base Tca := Tab.own_ok Tca0_ok clash_ok
theorem Tca_fns : Tca.fn 24 = mO := rfl
def xt := pU
theorem zag (a : List AVal) (H : zb) : Tca.mu 25 a H = xt a H ∧ Tca.mu 24 a H = none := ⟨rfl, rfl⟩
theorem sClash_at {G : zb} {e : Ent} {x y : Md} {q : Bool} (h0 : G[0]? = some e) (hv : e.ver = 0) (h1 : x.few = true) (h2 : y.few = true) (hq : yK e.elems x y = some q) : xt [.omap 0 0, .p (cMd.enc x), .p (cMd.enc y)] G = some (.p (.bool q), G) := by
 simp only [xt, pU, h0, cMd.de x trivial, cMd.de y trivial]
 rw [if_pos hv, if_pos (by simp [h1, h2])]
 simp only [hq]
theorem oq {gs : List Gv} (h : gs.length ≤ 1000000) (w : cGv.wfL gs) : mO [.lst (gs.map cGv.enc)] = some (.omap 0 0, [⟨0, 0, false, ve (gs.map kvG), 0⟩]) := by
 simp only [mO, cGv.deL gs w]
 rw [if_pos (by omega)]
theorem ym (n : Nat) (l : List (Int × PVal)) : (ve l).map (zk n) = ve l := by
 have h := kI l
 generalize ve l = m at h
 induction m with
 | nil => rfl
 | cons x r ih =>
  obtain ⟨k, z, rfl⟩ := h x (by simp)
  rw [List.map_cons, ih (fun x hx => h x (by simp [hx]))]
  simp [qb, zk]
theorem aS : zH Tryz.prog base 10 (za (sp2 cMd.lst cGv.lst dz)) := by
 refine zd zE Tca_ok ze low10 fun args z hs hf => ?_
 obtain ⟨ms, gs, wm, wg, rfl, hz⟩ := kJ hs
 unfold dz at hz
 split at hz
 case isFalse => cases hz
 rename_i hc
 simp only [Bool.and_eq_true, decide_eq_true_eq, List.all_eq_true] at hc
 obtain ⟨⟨hfew, hml⟩, hgl⟩ := hc
 obtain ⟨es, hes⟩ : ∃ es, es = ve (gs.map kvG) := ⟨_, rfl⟩
 have ht := oq hgl wg
 rw [← hes] at ht hz
 cases hr : vN es ms 0 with
 | none => rw [hr] at hz; cases hz
 | some r =>
 rw [hr] at hz
 cases hz
 refine ⟨by simp [lf10], ?_⟩
 simp only [Cd.lst]
 have hsh : es.map (zk 0) = es := by rw [hes]; exact ym 0 _
 simp [lf10, ht, zag, Tca_fns, qX, -zk, hsh]
 simp only [lf10_B1, zr]
 refine zo (fun fr G => ∃ i : Nat, i ≤ ms.length ∧ G[0]? = some ⟨0, 0, false, es, 0⟩ ∧ fr 0 = .p (.lst (ms.map cMd.enc)) ∧ fr 7 = .omap 0 0 ∧ fr 13 = .p (.lst (ms.map cMd.enc)) ∧ fr 14 = .p (.int .i64 ms.length) ∧ fr 15 = .p (.int .i64 i) ∧ vN es (ms.drop i) i = some r) (fun fr _ => ms.length - zA (fr 15)) ⟨0, by omega, by simp, by simp, by simp, by simp, by simp, by simp, by simpa using hr⟩ ?_
 rintro fr G ⟨i, hi, hG, f0, f7, f13, f14, f15, hcl⟩
 by_cases h : i < ms.length
 ·obtain ⟨a, ha⟩ : ∃ a, ms[i]? = some a := ⟨_, List.getElem?_eq_getElem h⟩
  have hna := z3 ha
  have hw := zs (i := i) (by omega)
  have hfa := hfew a (List.mem_of_getElem? ha)
  have hdr : ms.drop i = a :: ms.drop (i + 1) := by rw [List.drop_eq_getElem_cons h, hna]
  rw [hdr] at hcl
  simp only [vN] at hcl
  have hGl : 0 < G.length := (List.getElem?_eq_some_iff.1 hG).1
  have hea : cMd.enc a = .agg [.int .i64 a.id, .str a.f, .lst (a.ag.map cI.enc)] := rfl
  simp [f13, f14, f15, h, hna, hw, hea]
  simp only [lf10_B0, zr]
  refine zo (fun fr G' => ∃ j : Nat, i + 1 ≤ j ∧ j ≤ ms.length ∧ G'[0]? = some ⟨0, 0, false, es, 0⟩ ∧ G'[G.length]? = some ⟨3, 0, false, [.p (.agg [.int .i64 a.id, .str a.f, .lst (a.ag.map cI.enc)])], 26⟩ ∧
   fr 0 = .p (.lst (ms.map cMd.enc)) ∧ fr 7 = .omap 0 0 ∧ fr 8 = .p (.int .i64 i) ∧ fr 9 = .optr G.length 0 0 0 ∧ fr 10 = .p (.int .i64 j) ∧ fr 13 = .p (.lst (ms.map cMd.enc)) ∧ fr 14 = .p (.int .i64 ms.length) ∧ fr 15 = .p (.int .i64 i) ∧
   (match ub es a (ms.drop j) j with | some (some j) => some (some (i, j)) | some none => vN es (ms.drop (i + 1)) (i + 1) | none => none) = some r) (fun fr _ => ms.length - zA (fr 10)) ⟨i + 1, by omega, by omega, by rw [List.getElem?_append_left hGl]; exact hG, by simp, by simp [f0], by simp [f7], by simp, by simp, by simp, by simp [f13], by simp [f14], by simp [f15], hcl⟩ ?_
  rintro fr2 G2 ⟨j, hij, hj, g0, gA, k0, k7, k8, k9, k10, k13, k14, k15, hrow⟩
  by_cases hjl : j < ms.length
  ·obtain ⟨b, hb⟩ : ∃ b, ms[j]? = some b := ⟨_, List.getElem?_eq_getElem hjl⟩
   have hnb := z3 hb
   have hwj := zs (i := j) (by omega)
   have hfb := hfew b (List.mem_of_getElem? hb)
   have hdrj : ms.drop j = b :: ms.drop (j + 1) := by rw [List.drop_eq_getElem_cons hjl, hnb]
   rw [hdrj] at hrow
   simp only [ub] at hrow
   have heb : cMd.enc b = .agg [.int .i64 b.id, .str b.f, .lst (b.ag.map cI.enc)] := rfl
   cases hcv : yK es a b with
   | none => rw [hcv] at hrow; cases hrow
   | some q =>
    rw [hcv] at hrow
    have hc := sClash_at g0 rfl hfa hfb hcv
    rw [hea, heb] at hc
    cases q with
    | true =>
     simp only [Option.some.injEq] at hrow
     subst hrow
     simp [k0, k7, k8, k9, k10, hjl, hnb, heb, gA, hc, zag, trip]
    | false =>
     simp only at hrow
     simp [k0, k7, k8, k9, k10, k13, k14, k15, hjl, hnb, heb, gA, g0, hc, zag, hwj, zA]
     exact ⟨⟨j + 1, by omega, by omega, rfl, hrow⟩, by omega⟩
  ·have hjj : j = ms.length := by omega
   subst hjj
   rw [List.drop_of_length_le (Nat.le_refl _)] at hrow
   simp only [ub] at hrow
   simp [k0, k7, k10, k13, k14, k15, g0, hw, zA]
   exact ⟨⟨i + 1, by omega, rfl, hrow⟩, by omega⟩
 ·have hil : i = ms.length := by omega
  subst hil
  rw [List.drop_of_length_le (Nat.le_refl _)] at hcl
  simp only [vN, Option.some.injEq] at hcl
  subst hcl
  simp [f14, f15, trip]
def zVa : Va := ⟨0, false, zF, 0⟩
def wC (s n : Int) : Va := if s = 0 then ⟨0, decide (n = 1), zF, 0⟩ else if s = 1 then ⟨1, false, ofQ (Rat.divInt n 1), 0⟩ else ⟨s, false, zF, n⟩
theorem je (s n : Int) : (wC s n).x.wf := by
 unfold wC
 split
 ·exact dD
 ·split
  ·exact kF _
  ·exact dD
def aV (s n : Int) : Option PVal := if -1000 ≤ n ∧ n ≤ 1000 then some (wC s n).enc else none
def Tval : Tab := Tab.none.with 19 (za cN)
theorem Tval_ok : TabOk Tryz.prog base Tval := Tab.with_ok Tab.none_ok rofR_ok
theorem Tval_mu (f : FuncId) (a : List AVal) (H : zb) : Tval.mu f a H = none := (rfl)
theorem Tval_fns : Tval.fn 19 = (za cN) := (rfl)
theorem value_ok' : zH Tryz.prog base 8 (za (sp2 cI cI aV)) := by
 refine zd zE Tval_ok ze low8 fun args z hs hf => ?_
 obtain ⟨s, n, -, -, rfl, hz⟩ := kJ hs
 unfold aV at hz
 split at hz
 case isFalse => cases hz
 rename_i hn
 cases hz
 refine ⟨by simp [lf8], ?_⟩
 have o1 := ofR (n := n) (d := 1) ⟨hn, by decide⟩
 simp only [cI, wC]
 by_cases h0 : s = 0
 ·subst h0
  simp [lf8, Va.enc, Va.cells, zF, qv]
  rfl
 ·have h0' : (s == 0) = false := by simpa using h0
  by_cases h1 : s = 1
  ·subst h1
   obtain ⟨x, hx⟩ : ∃ x, x = ofQ (Rat.divInt n 1) := ⟨_, rfl⟩
   rw [← hx] at o1 ⊢
   simp only [Fr.enc] at o1
   simp [lf8, Va.enc, Va.cells, o1, qv, Tval_mu, Tval_fns]
  ·have h1' : (s == 1) = false := by simpa using h1
   simp [lf8, h0, h1, h0', h1', Va.enc, Va.cells, zF, qv]
def jB (n : Int) : List Gv → Va
 | [] => zVa
 | g :: r => if g.id = n then g.v else jB n r
def di (gs : List Gv) (n : Int) : Option PVal := some (jB n gs).enc
theorem dh (n : Int) : ∀ (gs : List Gv) (i : Nat), (∀ g ∈ gs.take i, g.id ≠ n) → jB n gs = jB n (gs.drop i)
 | gs, 0, _ => rfl
 | [], i + 1, _ => rfl
 | g :: r, i + 1, h => by
  have h1 : g.id ≠ n := h g (by simp)
  have h2 := dh n r i (fun x hx => h x (by simp [hx]))
  simp [jB, h1, h2]
theorem look_ok : zH Tryz.prog base 16 (za (sp2 cGv.lst cI di)) := by
 refine zd zE Tab.none_ok ze low16 fun args z hs hf => ?_
 obtain ⟨gs, n, wg, -, rfl, hz⟩ := kJ hs
 cases hz
 have hlen := (hf (.lst (gs.map cGv.enc)) (by simp [Cd.lst])).lst.1
 unfold maxLen at hlen
 simp only [List.length_map] at hlen
 refine ⟨by simp [lf16], ?_⟩
 simp only [cI, Cd.lst]
 simp [lf16]
 simp only [lf16_B0, zr]
 refine zo (fun fr G => ∃ i : Nat, i ≤ gs.length ∧ G = [⟨6, 0, false, [.agg [.p (.int .i64 0), .p (.bool false), .p (.bool false), .tight [], .tight [], .p (.int .i64 0)]], 35⟩] ∧ fr 0 = .p (.lst (gs.map cGv.enc)) ∧ fr 1 = .p (.int .i64 n) ∧ fr 4 = .optr 0 0 0 0 ∧ fr 5 = .p (.int .i64 i) ∧ ∀ g ∈ gs.take i, g.id ≠ n) (fun fr _ => gs.length - zA (fr 5)) ⟨0, by omega, by simp, by simp, by simp, by simp, by simp, by simp⟩ ?_
 rintro fr G ⟨i, hi, rfl, f0, f1, f4, f5, hno⟩
 by_cases h : i < gs.length
 ·obtain ⟨g, hg⟩ : ∃ g, gs[i]? = some g := ⟨_, List.getElem?_eq_getElem h⟩
  have hng := z3 hg
  have hw := zs (i := i) (by omega)
  have hdr : gs.drop i = g :: gs.drop (i + 1) := by rw [List.drop_eq_getElem_cons h, hng]
  have heg : cGv.enc g = .agg [.int .i64 g.id, .int .i64 g.v.k, .bool g.v.b, .bool g.v.x.s, .lst (g.v.x.n.map u64), .lst (g.v.x.d.map u64), .int .i64 g.v.el] := rfl
  by_cases he : g.id = n
  ·have hb : (g.id == n) = true := by simpa using he
   have hl : jB n gs = g.v := by rw [dh n gs i hno, hdr]; simp [jB, he]
   rw [hl]
   simp [f0, f1, f4, f5, h, hng, heg, he, Va.enc, Va.cells]
  ·have hb : (g.id == n) = false := by simpa using he
   simp [f0, f1, f4, f5, h, hng, heg, hb, hw, zA]
   refine ⟨⟨i + 1, by omega, rfl, fun x hx => ?_⟩, by omega⟩
   rw [List.take_add_one, hg] at hx
   simp at hx
   rcases hx with hx | rfl
   ·exact hno x hx
   ·exact he
 ·have hil : i = gs.length := by omega
  subst hil
  have hl : jB n gs = zVa := by rw [dh n gs _ hno, List.drop_of_length_le (Nat.le_refl _)]; rfl
  rw [hl]
  simp [f0, f4, f5, zVa, zF, Va.enc, Va.cells, qv]
def uI (t : Int) : Po := ⟨[⟨ofQ 1, t⟩], ofQ 0⟩
theorem pq (t : Int) : (uI t).wf := ⟨fun x hx => by simp [uI] at hx; subst hx; exact kF _, kF _⟩
def varP (t : Int) : Option PVal := some (uI t).enc
theorem o1_eq : Rat.divInt 1 1 = 1 := by decide +kernel
def Tvr : Tab := (Tab.none.with 43 (za cN)).with 53 (za yo)
theorem Tvr_ok : TabOk Tryz.prog base Tvr := Tab.with_ok (Tab.with_ok Tab.none_ok iG) p8
theorem Tvr_mu (f : FuncId) (a : List AVal) (H : zb) : Tvr.mu f a H = none := (rfl)
theorem Tvr_fns : Tvr.fn 43 = (za cN) ∧ Tvr.fn 53 = (za yo) := ⟨rfl, rfl⟩
theorem lvar_ok : zH Tryz.prog base 42 (za (sp1 cI varP)) := by
 refine zd zE Tvr_ok ze low42 fun args z hs hf => ?_
 obtain ⟨t, -, rfl, hz⟩ := uK hs
 cases hz
 refine ⟨by simp [lf42], ?_⟩
 have o1 := ofR (n := 1) (d := 1) (by decide)
 rw [o1_eq] at o1
 have o2 := cM
 simp only [cI, uI, Po.enc, List.map_cons, List.map_nil, Pa.enc]
 obtain ⟨x, hx⟩ : ∃ x, x = ofQ 1 := ⟨_, rfl⟩
 obtain ⟨y, hy⟩ : ∃ x, x = ofQ 0 := ⟨_, rfl⟩
 rw [← hx] at o1 ⊢
 rw [← hy] at o2 ⊢
 simp only [Fr.enc] at o1 o2
 simp [lf42, o1, o2, zO, qv, Tvr_mu, Tvr_fns]
def uH (s : Int) : Va := if s = 1 then ⟨1, false, ofQ 0, 0⟩ else ⟨s, false, zF, 0⟩
theorem xb (s : Int) : (uH s).x.wf := by
 unfold uH
 split
 ·exact kF _
 ·exact dD
def zerP (s : Int) : Option PVal := some (uH s).enc
def Tze : Tab := Tab.none.with 53 (za yo)
theorem Tze_ok : TabOk Tryz.prog base Tze := Tab.with_ok Tab.none_ok p8
theorem Tze_mu (f : FuncId) (a : List AVal) (H : zb) : Tze.mu f a H = none := (rfl)
theorem Tze_fns : Tze.fn 53 = (za yo) := (rfl)
theorem mzero_ok : zH Tryz.prog base 30 (za (sp1 cI zerP)) := by
 refine zd zE Tze_ok ze low30 fun args z hs hf => ?_
 obtain ⟨s, -, rfl, hz⟩ := uK hs
 cases hz
 refine ⟨by simp [lf30], ?_⟩
 have o2 := cM
 simp only [cI, uH]
 by_cases h1 : s = 1
 ·subst h1
  obtain ⟨y, hy⟩ : ∃ x, x = ofQ 0 := ⟨_, rfl⟩
  rw [← hy] at o2 ⊢
  simp only [Fr.enc] at o2
  simp [lf30, o2, Va.enc, Va.cells, qv, Tze_mu, Tze_fns]
 ·have h1' : (s == 1) = false := by simpa using h1
  simp [lf30, h1, h1', Va.enc, Va.cells, zF, qv]
def xE (v : Va) : Option PVal := if v.x.small = true then some v.enc else none
def Tow24 : Tab := Tab.none.with 75 (za nH)
theorem Tow24_ok : TabOk Tryz.prog base Tow24 := Tab.with_ok Tab.none_ok xM
theorem Tow24_mu (f : FuncId) (a : List AVal) (H : zb) : Tow24.mu f a H = none := (rfl)
theorem Tow24_fns : Tow24.fn 75 = (za nH) := (rfl)
theorem mown_ok : zH Tryz.prog base 61 (za (sp1 cVa xE)) := by
 refine zd zE Tow24_ok ze low61 fun args z hs hf => ?_
 obtain ⟨v, wv, rfl, hz⟩ := uK hs
 unfold xE at hz
 split at hz
 case isFalse => cases hz
 rename_i hsm
 cases hz
 refine ⟨by simp [lf61], ?_⟩
 have o := sOwn_at (show v.x.wf from wv) hsm
 obtain ⟨k, b, ⟨s, n, d⟩, e⟩ := v
 simp only [Fr.enc] at o
 simp only [cVa, Va.enc, Va.cells]
 simp [lf61, o, Tow24_mu, Tow24_fns]
def mnI (a b : Int) : Int := if b < a then b else a
def mxI (a b : Int) : Int := if a < b then b else a
def vQ (r : At × Int) : PVal := .tup [r.1.enc, .int .i64 r.2]
def ol (x y : Int) : At := ⟨5, zPo, mnI x y, mxI x y⟩
def fP (x y : Int) : Option PVal := if ¬ x = y ∧ 0 ≤ mnI x y then some (vQ (ol x y, 0)) else none
theorem aeq_ok : zH Tryz.prog base 40 (za (sp2 cI cI fP)) := by
 refine zd zE Tab.none_ok ze low40 fun args z hs hf => ?_
 obtain ⟨x, y, -, -, rfl, hz⟩ := kJ hs
 unfold fP at hz
 split at hz
 case isFalse => cases hz
 rename_i hc
 cases hz
 obtain ⟨h1, h2⟩ := hc
 refine ⟨by simp [lf40], ?_⟩
 have h1' : (x == y) = false := by simpa using h1
 have h3 : ¬ mnI x y < 0 := by omega
 simp only [cI, vQ, ol, At.enc, zPo, zF]
 unfold mnI at h3 ⊢
 unfold mxI
 simp [lf40, h1', h3, qv]
def uu (x : Int) : At := ⟨6, zPo, x, 0⟩
def t5 (x : Int) : Option PVal := if 0 ≤ x then some (vQ (uu x, 0)) else none
theorem abool_ok : zH Tryz.prog base 46 (za (sp1 cI t5)) := by
 refine zd zE Tab.none_ok ze low46 fun args z hs hf => ?_
 obtain ⟨x, -, rfl, hz⟩ := uK hs
 unfold t5 at hz
 split at hz
 case isFalse => cases hz
 rename_i hc
 cases hz
 refine ⟨by simp [lf46], ?_⟩
 have h' : ¬ x < 0 := by omega
 simp only [cI, vQ, uu, At.enc, zPo, zF]
 simp [lf46, h', qv]
def mV (y : Int) : Po × Nat := jS (uI y) (ofQ (-1))
def mH (x y : Int) : Po × Nat := aE (uI x) (mV y).1
def iU (x y : Int) : At × Bool × Nat := rC 3 (mH x y).1
def eqA (s x y : Int) : Option At :=
 if s = 1 then (if (mV y).2 = 0 ∧ (mV y).1.few = true ∧ (mH x y).2 = 0 ∧ (mH x y).1.few = true ∧ (iU x y).2.2 = 0 then some (iU x y).1 else none)
 else if ¬ x = y ∧ 0 ≤ mnI x y then some (ol x y) else none
theorem eqA_wf {s x y : Int} {a : At} (h : eqA s x y = some a) : a.p.wf := by
 unfold eqA at h
 split at h
 ·split at h
  ·cases h; exact wf_makeAt
  ·cases h
 ·split at h
  ·cases h; exact j8
  ·cases h
def sO (s x y : Int) : Option PVal := match eqA s x y with | some a => some (vQ (a, 0)) | none => none
def Teq24 : Tab := (((((Tab.none.with 40 (za (sp2 cI cI fP))).with 42 (za (sp1 cI varP))).with 43 (za cN)).with 41 (za (gks y9))).with 44 (za (g2s aF))).with 45 (za (ki eu))
theorem Teq24_ok : TabOk Tryz.prog base Teq24 := Tab.with_ok (Tab.with_ok (Tab.with_ok (Tab.with_ok (Tab.with_ok (Tab.with_ok Tab.none_ok aeq_ok) lvar_ok) iG) oe) ladd_ok) amake_ok
theorem sA (f : FuncId) (a : List AVal) (H : zb) : Teq24.mu f a H = none := (rfl)
theorem mB : Teq24.fn 40 = (za (sp2 cI cI fP)) ∧ Teq24.fn 42 = (za (sp1 cI varP)) ∧ Teq24.fn 43 = (za cN) ∧ Teq24.fn 41 = (za (gks y9)) ∧ Teq24.fn 44 = (za (g2s aF)) ∧ Teq24.fn 45 = (za (ki eu)) := ⟨rfl, rfl, rfl, rfl, rfl, rfl⟩
theorem ueq_ok : zH Tryz.prog base 21 (za (sp3 cI cI cI sO)) := by
 refine zd zE Teq24_ok ze low21 fun args z hs hf => ?_
 obtain ⟨s, x, y, -, -, -, rfl, hz⟩ := y3 hs
 unfold sO at hz
 cases he : eqA s x y with
 | none => rw [he] at hz; cases hz
 | some a =>
 rw [he] at hz
 cases hz
 unfold eqA at he
 refine ⟨by simp [lf21], ?_⟩
 simp only [cI]
 by_cases h1 : s = 1
 ·subst h1
  rw [if_pos rfl] at he
  split at he
  case isFalse => cases he
  rename_i hc
  cases he
  obtain ⟨n0, nf, s0, sf, m0⟩ := hc
  have o1 := ofR (n := -1) (d := 1) (by decide)
  rw [m1_eq] at o1
  have vf : ∀ t, (uI t).few = true := fun t => rfl
  have vx : sp1 cI varP [.int .i64 x] = some (uI x).enc := rfl
  have vy : sp1 cI varP [.int .i64 y] = some (uI y).enc := rfl
  have v1 : gks y9 [(uI y).enc, (ofQ (-1)).enc] = some (.tup [(mV y).1.enc, .int .i64 (mV y).2]) := gks_at (pq y) (kF _) (vf y)
  have wn : (mV y).1.wf := pk _ _
  have v2 : g2s aF [(uI x).enc, (mV y).1.enc] = some (.tup [(mH x y).1.enc, .int .i64 (mH x y).2]) := g2s_at (pq x) wn (vf x) nf
  have ws : (mH x y).1.wf := wf_addPo (pq x) wn
  have v3 : ki eu [.int .i64 3, (mH x y).1.enc] = some (.tup [(iU x y).1.enc, .bool (iU x y).2.1, .int .i64 (iU x y).2.2]) := ki_at ws sf
  rw [n0] at v1
  rw [s0] at v2
  rw [m0] at v3
  obtain ⟨pv, hpv⟩ : ∃ t, t = uI x := ⟨_, rfl⟩
  obtain ⟨pw, hpw⟩ : ∃ t, t = uI y := ⟨_, rfl⟩
  obtain ⟨pn, hpn⟩ : ∃ t, t = (mV y).1 := ⟨_, rfl⟩
  obtain ⟨ps, hps⟩ : ∃ t, t = (mH x y).1 := ⟨_, rfl⟩
  obtain ⟨pa, hpa⟩ : ∃ t, t = (iU x y).1 := ⟨_, rfl⟩
  obtain ⟨pb, hpb⟩ : ∃ t, t = (iU x y).2.1 := ⟨_, rfl⟩
  obtain ⟨m1, hm1⟩ : ∃ t, t = ofQ (-1) := ⟨_, rfl⟩
  rw [← hpv] at vx v2
  rw [← hpw] at vy v1
  rw [← hpn] at v1 v2
  rw [← hps] at v2 v3
  rw [← hpa, ← hpb] at v3
  rw [← hpa]
  rw [← hm1] at o1 v1
  simp only [Po.enc, Fr.enc, At.enc, vQ] at o1 vx vy v1 v2 v3 ⊢
  simp [lf21, o1, vy, v1, sA, mB]
  rw [zw]
  refine ⟨[], ?_⟩
  simp [vx, v2, v3, sA, mB]
  exact keepT rfl
 ·have h1' : (s != 1) = true := by simpa using h1
  rw [if_neg h1] at he
  split at he
  case isFalse => cases he
  rename_i hc
  cases he
  have v : sp2 cI cI fP [.int .i64 x, .int .i64 y] = some (vQ (ol x y, 0)) := (jD (A := cI) (B := cI) (x := x) (y := y) trivial trivial).trans (if_pos hc)
  obtain ⟨pa, hpa⟩ : ∃ t, t = ol x y := ⟨_, rfl⟩
  rw [← hpa] at v ⊢
  simp only [At.enc, vQ] at v ⊢
  simp [lf21, h1', v, sA, mB]
def rU (s x y : Int) : Option (List Li × List Li) :=
 if s = 0 then (if 0 ≤ x ∧ 0 ≤ y then some ([⟨uu x, false⟩, ⟨uu y, true⟩], [⟨uu x, true⟩, ⟨uu y, false⟩]) else none)
 else match eqA s x y with | some a => some ([⟨a, false⟩], []) | none => none
def t3 (s x y : Int) : Option PVal := match rU s x y with | some r => some (.tup [.lst (r.1.map cLi.enc), .lst (r.2.map cLi.enc), .int .i64 0]) | none => none
def Ten : Tab := (Tab.none.with 21 (za (sp3 cI cI cI sO))).with 46 (za (sp1 cI t5))
theorem Ten_ok : TabOk Tryz.prog base Ten := Tab.with_ok (Tab.with_ok Tab.none_ok ueq_ok) abool_ok
theorem Ten_mu (f : FuncId) (a : List AVal) (H : zb) : Ten.mu f a H = none := (rfl)
theorem Ten_fns : Ten.fn 21 = (za (sp3 cI cI cI sO)) ∧ Ten.fn 46 = (za (sp1 cI t5)) := ⟨rfl, rfl⟩
theorem ends_ok : zH Tryz.prog base 22 (za (sp3 cI cI cI t3)) := by
 refine mS zE Ten_ok ze low22 fun args z hs hf => ?_
 obtain ⟨s, x, y, -, -, -, rfl, hz⟩ := y3 hs
 unfold t3 at hz
 cases he : rU s x y with
 | none => rw [he] at hz; cases hz
 | some r =>
 rw [he] at hz
 cases hz
 unfold rU at he
 refine ⟨by simp [lf22], ?_⟩
 simp only [cI]
 by_cases h0 : s = 0
 ·subst h0
  rw [if_pos rfl] at he
  split at he
  case isFalse => cases he
  rename_i hc
  cases he
  have bx : sp1 cI t5 [.int .i64 x] = some (vQ (uu x, 0)) := (cF (A := cI) (x := x) trivial).trans (if_pos hc.1)
  have by' : sp1 cI t5 [.int .i64 y] = some (vQ (uu y, 0)) := (cF (A := cI) (x := y) trivial).trans (if_pos hc.2)
  have hx : ∀ no, cLi.enc ⟨uu x, no⟩ = .agg ((uu x).cells ++ [.bool no]) := fun _ => rfl
  have hy : ∀ no, cLi.enc ⟨uu y, no⟩ = .agg ((uu y).cells ++ [.bool no]) := fun _ => rfl
  simp only [List.map_cons, List.map_nil, hx, hy]
  obtain ⟨pa, hpa⟩ : ∃ t, t = uu x := ⟨_, rfl⟩
  obtain ⟨pb, hpb⟩ : ∃ t, t = uu y := ⟨_, rfl⟩
  rw [← hpa] at bx ⊢
  rw [← hpb] at by' ⊢
  simp only [At.enc, At.cells, vQ] at bx by' ⊢
  simp [lf22, bx, by', Ten_mu, Ten_fns]
  rw [cE]
  refine ⟨[], ?_⟩
  simp [zO, qv]
 ·have h0' : (s != 0) = true := by simpa using h0
  rw [if_neg h0] at he
  cases hq : eqA s x y with
  | none => rw [hq] at he; cases he
  | some a =>
  rw [hq] at he
  cases he
  have v : sp3 cI cI cI sO [.int .i64 s, .int .i64 x, .int .i64 y] = some (vQ (a, 0)) := (xj (A := cI) (B := cI) (C := cI) (x := s) (y := x) (z := y) trivial trivial trivial).trans (by simp only [sO, hq])
  have hx : ∀ no, cLi.enc ⟨a, no⟩ = .agg (a.cells ++ [.bool no]) := fun _ => rfl
  simp only [List.map_cons, List.map_nil, hx]
  simp only [At.enc, At.cells, vQ] at v ⊢
  simp [lf22, h0', v, Ten_mu, Ten_fns, zO, qv]
def iA : List PVal → Option (List PVal)
 | [.lst vs] => match ju cLi.dec vs with | some (_ :: l) => if l.length ≤ 1000000 then some vs else none | _ => none
 | _ => none
theorem lW : zH Tryz.prog base 23 (vp 8 80 iA) := by
 refine bD zE Tab.none_ok ze low23 fun args es hs hf => ?_
 unfold iA at hs
 split at hs
 case h_2 => cases hs
 split at hs
 case h_2 => cases hs
 rename_i x l hl
 obtain ⟨rfl, wl⟩ := cLi.edL _ _ hl
 split at hs
 case isFalse => cases hs
 rename_i hlen
 cases hs
 refine ⟨by simp [lf23], ?_⟩
 have hm : maxLen = 9223372036854775807 := rfl
 have h1 : (l.length + 1) * 112 ≤ 140737488355328 := by omega
 have h2 : l.length + 1 ≤ maxLen := by omega
 have h4 : ∀ x : Li, ∀ z ∈ (cLi.enc x).cells, z.isCell = true := fun x z hz => by
  simp only [cLi, PVal.cells, At.cells, List.cons_append, List.nil_append, List.mem_cons, List.not_mem_nil, or_false] at hz
  rcases hz with rfl | rfl | rfl | rfl | rfl | rfl | rfl | rfl <;> rfl
 simp [lf23, zO, cLi, At.cells, h1, h2, mh]
 exact ⟨0, 1, ⟨rfl, rfl⟩, _, rfl, rfl, rfl, rfl, rfl, rfl⟩
def iy : List PVal → Option (List PVal)
 | [.lst vs] => match ju cVa.dec vs with | some (_ :: l) => if l.length ≤ 1000000 then some vs else none | _ => none
 | _ => none
theorem lU : zH Tryz.prog base 101 (vp 6 35 iy) := by
 refine bD zE Tab.none_ok ze low101 fun args es hs hf => ?_
 unfold iy at hs
 split at hs
 case h_2 => cases hs
 split at hs
 case h_2 => cases hs
 rename_i x l hl
 obtain ⟨rfl, wl⟩ := cVa.edL _ _ hl
 split at hs
 case isFalse => cases hs
 rename_i hlen
 cases hs
 refine ⟨by simp [lf101], ?_⟩
 have hm : maxLen = 9223372036854775807 := rfl
 have h1 : (l.length + 1) * 80 ≤ 140737488355328 := by omega
 have h2 : l.length + 1 ≤ maxLen := by omega
 simp [lf101, zO, cVa, Va.enc, Va.cells, h1, h2, mh]
 exact ⟨0, 1, ⟨rfl, rfl⟩, _, rfl, rfl, rfl, rfl, rfl, rfl⟩
def iz : List PVal → Option (List PVal)
 | [.lst vs] => match ju cRw.dec vs with | some (_ :: l) => if l.length ≤ 1000000 then some vs else none | _ => none
 | _ => none
theorem lV : zH Tryz.prog base 59 (vp 7 58 iz) := by
 refine bD zE Tab.none_ok ze low59 fun args es hs hf => ?_
 unfold iz at hs
 split at hs
 case h_2 => cases hs
 split at hs
 case h_2 => cases hs
 rename_i x l hl
 obtain ⟨rfl, wl⟩ := cRw.edL _ _ hl
 split at hs
 case isFalse => cases hs
 rename_i hlen
 cases hs
 refine ⟨by simp [lf59], ?_⟩
 have hm : maxLen = 9223372036854775807 := rfl
 have h1 : (l.length + 1) * 104 ≤ 140737488355328 := by omega
 have h2 : l.length + 1 ≤ maxLen := by omega
 simp [lf59, zO, cRw, Va.cells, h1, h2, mh]
 exact ⟨0, 1, ⟨rfl, rfl⟩, _, rfl, rfl, rfl, rfl, rfl, rfl⟩
theorem wM (H : zb) (n : Nat) : ∀ l : List PVal, zN (zj H n) (l.map AVal.p) = some l
 | [] => rfl
 | x :: r => by simp [zN, zj, wM H n r]
theorem yl (H : zb) (n : Nat) : ∀ l : List PVal, (l.map AVal.p).flatMap (zh H n) = []
 | [] => rfl
 | x :: r => by rw [List.map_cons, List.flatMap_cons, yl H n r]; cases n <;> simp [zh]
theorem u9 {size bytes k n ver : Nat} {fz : Bool} {ty : TypeId} {els ys : List AVal} {H : zb} (hk : H[k]? = some ⟨size, ver, fz, els, ty⟩) (hc : ys.all (fun y => y.cells.length == size && y.cells.all AVal.isCell) = true) (hp : 0 < size) (hn : n = els.length) (h1 : (els.length + ys.length) * bytes ≤ 140737488355328) (h2 : els.length + ys.length ≤ maxLen) :
  qC size bytes ty (.own k 0 n ver) ys H = some (.own k 0 (n + ys.length) (ver + 1), H.set k ⟨size, ver + 1, fz, els ++ ys, ty⟩) := by
 unfold qC
 rw [if_pos ⟨hc, hp⟩]
 simp only [hk]
 rw [if_pos ⟨trivial, trivial, trivial, trivial, hn, h1, h2⟩]
def yP (n : Int) : List Vr → Option Int
 | [] => none
 | g :: r => if g.id = n then some g.k else yP n r
theorem tL (n : Int) : ∀ vs : List Vr, jA n (vs.map kvV) = (yP n vs).map (fun k => PVal.int .i64 k)
 | [] => rfl
 | g :: r => by
  simp only [List.map_cons, jA, yP, kvV]
  split
  ·rfl
  ·exact tL n r
def nQ (vs : List Vr) : List Int → List Int → Bool
 | [], [] => true
 | x :: l, y :: m => (match yP x vs with
  | some s => (match yP y vs with | some t => decide (s = t) && decide (0 ≤ mn2 (mn2 s x) y) | none => false)
  | none => false) && nQ vs l m
 | _, _ => false
theorem rf {vs : List Vr} : ∀ {l m : List Int} {i : Nat} {x y : Int}, nQ vs l m = true → l[i]? = some x → m[i]? = some y → ∃ s, yP x vs = some s ∧ yP y vs = some s ∧ 0 ≤ mn2 (mn2 s x) y
 | [], _, i, x, y, _, hx, _ => by simp at hx
 | _ :: _, [], i, x, y, h, _, _ => by cases h
 | a :: l, b :: m, i, x, y, h, hx, hy => by
  simp only [nQ, Bool.and_eq_true] at h
  cases i with
  | zero =>
   simp at hx hy
   subst hx; subst hy
   obtain ⟨h, -⟩ := h
   split at h
   ·rename_i s hs
    split at h
    ·rename_i t ht
     simp only [Bool.and_eq_true, decide_eq_true_eq] at h
     obtain ⟨rfl, h2⟩ := h
     exact ⟨s, hs, ht, h2⟩
    ·cases h
   ·cases h
  | succ i => exact rf h.2 (by simpa using hx) (by simpa using hy)
def uN (vs : List Vr) : List Int → List Int → Option (List Li)
 | [], [] => some []
 | x :: l, y :: m => if x = y then uN vs l m else match yP x vs with
  | some s => (match eqA s x y with
   | some a => (match uN vs l m with | some r => some (⟨a, true⟩ :: r) | none => none)
   | none => none)
  | none => none
 | _, _ => none
theorem rj {vs : List Vr} : ∀ {l m : List Int} {r : List Li}, uN vs l m = some r → cLi.wfL r
 | [], [], r, h => by cases h; intro x hx; cases hx
 | x :: l, y :: m, r, h => by
  unfold uN at h
  split at h
  ·exact rj h
  ·split at h
   ·split at h
    ·rename_i a ha
     split at h
     ·rename_i r' hr
      cases h
      intro z hz
      rcases List.mem_cons.1 hz with rfl | hz
      ·exact eqA_wf ha
      ·exact rj hr z hz
     ·cases h
    ·cases h
   ·cases h
 | [], _ :: _, _, h => by cases h
 | _ :: _, [], _, h => by cases h
theorem gY {vs : List Vr} : ∀ {l m : List Int} {r : List Li}, uN vs l m = some r → r.length ≤ l.length
 | [], [], r, h => by cases h; simp
 | x :: l, y :: m, r, h => by
  unfold uN at h
  split at h
  ·have := gY h; simp; omega
  ·split at h
   ·split at h
    ·split at h
     ·rename_i r' hr
      cases h
      have := gY hr
      simp; omega
     ·cases h
    ·cases h
   ·cases h
 | [], _ :: _, _, h => by cases h
 | _ :: _, [], _, h => by cases h
def lC (vs : List Vr) (a b : Md) : Option (List Li × List Li) :=
 if (a.few && b.few && decide (vs.length ≤ 1000000) && decide (a.f = b.f) && decide (a.ag.length = b.ag.length) && decide (a.id ≠ b.id) && nQ vs (a.id :: a.ag) (b.id :: b.ag)) = true then
  match uN vs a.ag b.ag with
  | some (o :: out) => (match yP a.id vs with
   | some s => (match rU s a.id b.id with
    | some r => some (o :: out ++ r.1, if r.2.isEmpty then [] else o :: out ++ r.2)
    | none => none)
   | none => none)
  | _ => none
 else none
def lB (vs : List Vr) (a b : Md) : Option PVal := match lC vs a b with
 | some r => some (.tup [.lst (r.1.map cLi.enc), .lst (r.2.map cLi.enc), .int .i64 0])
 | none => none
def Tlm : Tab := (((Tab.none.with 20 mN).with 21 (za (sp3 cI cI cI sO))).with 22 (za (sp3 cI cI cI t3))).with 23 (vp 8 80 iA)
theorem Tlm_ok : TabOk Tryz.prog base Tlm := Tab.with_ok (Tab.with_ok (Tab.with_ok (Tab.with_ok Tab.none_ok zao) ueq_ok) ends_ok) lW
theorem sx (f : FuncId) (a : List AVal) (H : zb) : Tlm.mu f a H = none := rfl
theorem gI : Tlm.fn 20 = mN ∧ Tlm.fn 21 = za (sp3 cI cI cI sO) ∧ Tlm.fn 22 = za (sp3 cI cI cI t3) ∧ Tlm.fn 23 = vp 8 80 iA := ⟨rfl, rfl, rfl, rfl⟩
theorem oo {gs : List Vr} (h : gs.length ≤ 1000000) : mN [.lst (gs.map cVr.enc)] = some (.omap 0 0, [⟨0, 0, false, ve (gs.map kvV), 0⟩]) := by
 simp only [mN, cVr.deL gs (fun _ _ => trivial)]
 rw [if_pos (by omega)]
theorem lemma_ok : zH Tryz.prog base 9 (za (sp3 cVr.lst cMd cMd lB)) := by
 refine mS zE Tlm_ok ze low9 fun args z hs hf => ?_
 obtain ⟨vs, a, b, -, -, -, rfl, hz⟩ := y3 hs
 unfold lB at hz
 cases hl : lC vs a b with
 | none => rw [hl] at hz; cases hz
 | some r =>
 rw [hl] at hz
 cases hz
 unfold lC at hl
 split at hl
 case isFalse => cases hl
 rename_i hc
 simp only [Bool.and_eq_true, decide_eq_true_eq] at hc
 obtain ⟨⟨⟨⟨⟨⟨fa, fb⟩, hvl⟩, hff⟩, hla⟩, hid⟩, hpk⟩ := hc
 simp only [Md.few, decide_eq_true_eq] at fa fb
 obtain ⟨es, hes⟩ : ∃ es, es = ve (vs.map kvV) := ⟨_, rfl⟩
 have ht := oo hvl
 rw [← hes] at ht
 have hsh : es.map (zk 2) = es := by rw [hes]; exact ym 2 _
 have hmf : ∀ n s, yP n vs = some s → qJ n es = some (.int .i64 s) := fun n s h => by rw [hes, yB, tL, h]; rfl
 obtain ⟨ai, af, aa⟩ := a
 obtain ⟨bi, bf, ba⟩ := b
 simp only at hff hla hid hpk hl fa fb
 subst hff
 have hbs : yU .neq af af = some (.bool false) := by simp [yU]
 have hbe : (ai == bi) = false := by simpa using hid
 have hmx : maxLen = 9223372036854775807 := rfl
 have hb1 : 1 + ba.length ≤ maxLen := by omega
 have hb2 : (1 + ba.length) * 8 ≤ 140737488355328 := by omega
 refine ⟨by simp [lf9], ?_⟩
 have hint : cI.enc = fun n => .int .i64 n := rfl
 simp only [cMd, Cd.lst, hint]
 simp [lf9, ht, hsh, qX, -zk, hla, hbs, hbe, sx, gI]
 rw [cE]
 refine ⟨[], ?_⟩
 simp [zO, hla, hb1, hb2]
 refine ⟨keepT rfl, ?_⟩
 have hLa : AVal.p (PVal.int .i64 ai) :: List.map (AVal.p ∘ fun n => PVal.int .i64 n) aa = (ai :: aa).map (fun n => AVal.p (.int .i64 n)) := rfl
 have hLb : AVal.p (PVal.int .i64 bi) :: List.map (AVal.p ∘ fun n => PVal.int .i64 n) ba = (bi :: ba).map (fun n => AVal.p (.int .i64 n)) := rfl
 rw [hLa, hLb]
 obtain ⟨X, hX⟩ : ∃ X, X = ai :: aa := ⟨_, rfl⟩
 obtain ⟨Y, hY⟩ : ∃ Y, Y = bi :: ba := ⟨_, rfl⟩
 rw [← hX, ← hY] at hpk ⊢
 obtain ⟨N, hN⟩ : ∃ N, N = 1 + ba.length := ⟨_, rfl⟩
 have hXl : X.length = N := by rw [hX, hN]; simp; omega
 have hYl : Y.length = N := by rw [hY, hN]; simp; omega
 rw [← hN]
 obtain ⟨c4, hc4⟩ : ∃ c : Ent, c = ⟨3, 0, false, [.p (.agg [.int .i64 ai, .str af, .lst (aa.map fun n => .int .i64 n)])], 26⟩ := ⟨_, rfl⟩
 obtain ⟨c5, hc5⟩ : ∃ c : Ent, c = ⟨3, 0, false, [.p (.agg [.int .i64 bi, .str af, .lst (ba.map fun n => .int .i64 n)])], 26⟩ := ⟨_, rfl⟩
 rw [← hc4, ← hc5]
 simp only [lf9_B0, zr]
 refine zo (fun fr G => ∃ i : Nat, i ≤ N ∧ G = [c4, c5, ⟨0, 0, false, es, 0⟩, ⟨1, 2, false, X.map (fun n => .p (.int .i64 n)), 3⟩, ⟨1, 2, false, Y.map (fun n => .p (.int .i64 n)), 3⟩] ∧ fr 4 = .optr 0 0 0 0 ∧ fr 5 = .optr 1 0 0 0 ∧ fr 9 = .omap 2 0 ∧ fr 11 = .own 4 0 N 2 ∧ fr 61 = .own 3 0 N 2 ∧ fr 62 = .p (.int .i64 N) ∧ fr 63 = .p (.int .i64 i)) (fun fr _ => N - zA (fr 63)) ⟨0, by omega, rfl, by simp, by simp, by simp, by simp, by simp, by simp; omega, by simp⟩ ?_
 rintro fr G ⟨i, hi, rfl, f4, f5, f9, f11, f61, f62, f63⟩
 by_cases h : i < N
 ·obtain ⟨x, hx⟩ : ∃ x, X[i]? = some x := ⟨_, List.getElem?_eq_getElem (by omega)⟩
  obtain ⟨y, hy⟩ : ∃ y, Y[i]? = some y := ⟨_, List.getElem?_eq_getElem (by omega)⟩
  have hnx := z3 hx
  have hny := z3 hy
  obtain ⟨s, s1, s2, s3⟩ := rf hpk hx hy
  have m1 := hmf x s s1
  have m2 := hmf y s s2
  have hw := zs (i := i) (by omega)
  have s3' : ¬ mn2 (mn2 s x) y < 0 := by omega
  simp [f4, f5, f9, f11, f61, f62, f63, h, hnx, hny, hXl, hYl, m1, m2, s3', hw, zA]
  exact ⟨⟨i + 1, by omega, rfl⟩, by omega⟩
 ·have hil : i = N := by omega
  subst hil
  subst hc4 hc5
  simp [f4, f62, f63]
  cases hout : uN vs aa ba with
  | none => rw [hout] at hl; cases hl
  | some full =>
  rw [hout] at hl
  cases full with
  | nil => cases hl
  | cons o0 outr =>
  simp only at hl
  cases hso : yP ai vs with
  | none => rw [hso] at hl; cases hl
  | some s =>
  rw [hso] at hl
  simp only at hl
  cases hen : rU s ai bi with
  | none => rw [hen] at hl; cases hl
  | some q =>
  rw [hen] at hl
  simp only [Option.some.injEq] at hl
  obtain ⟨one, two⟩ := q
  subst hl
  have wfull := rj hout
  have lfull := gY hout
  obtain ⟨full, hfull⟩ : ∃ t, t = o0 :: outr := ⟨_, rfl⟩
  have hfl : full.length = outr.length + 1 := by rw [hfull]; rfl
  rw [← hfull] at hout wfull lfull
  simp only [lf9_B1, zr]
  refine zo (fun fr G => ∃ (i : Nat) (out rest : List Li), i ≤ aa.length ∧ G[0]? = some ⟨3, 0, false, [.p (.agg [.int .i64 ai, .str af, .lst (aa.map fun n => .int .i64 n)])], 26⟩ ∧ G[1]? = some ⟨3, 0, false, [.p (.agg [.int .i64 bi, .str af, .lst (ba.map fun n => .int .i64 n)])], 26⟩ ∧ G[2]? = some ⟨0, 0, false, es, 0⟩ ∧
   fr 4 = .optr 0 0 0 0 ∧ fr 5 = .optr 1 0 0 0 ∧ fr 9 = .omap 2 0 ∧ fr 106 = .p (.lst (aa.map fun n => .int .i64 n)) ∧ fr 107 = .p (.int .i64 aa.length) ∧ fr 108 = .p (.int .i64 i) ∧
   uN vs (aa.drop i) (ba.drop i) = some rest ∧ full = out ++ rest ∧ ((out = [] ∧ fr 18 = .tight []) ∨ (∃ m w, 3 ≤ m ∧ fr 18 = .own m 0 out.length w ∧ G[m]? = some ⟨8, w, false, (out.map cLi.enc).map .p, 80⟩))) (fun fr _ => aa.length - zA (fr 108))
   ⟨0, [], full, by omega, rfl, rfl, rfl, by simp [f4], by simp [f5], by simp [f9], by simp, by simp [hla], by simp, by simpa using hout, rfl, .inl ⟨rfl, by simp⟩⟩ ?_
  rintro fr2 G ⟨i, out, rest, hi, g0, g1, g2, k4, k5, k9, k106, k107, k108, hor, hfo, k18⟩
  have hG0 : 0 < G.length := (List.getElem?_eq_some_iff.1 g0).1
  have hG1 : 1 < G.length := (List.getElem?_eq_some_iff.1 g1).1
  have hG2 : 2 < G.length := (List.getElem?_eq_some_iff.1 g2).1
  by_cases h : i < aa.length
  ·obtain ⟨x, hx⟩ : ∃ x, aa[i]? = some x := ⟨_, List.getElem?_eq_getElem h⟩
   obtain ⟨y, hy⟩ : ∃ y, ba[i]? = some y := ⟨_, List.getElem?_eq_getElem (by omega)⟩
   have hnx := z3 hx
   have hny := z3 hy
   have hib : i < ba.length := by omega
   have hw := zs (i := i) (by omega)
   have hda : aa.drop i = x :: aa.drop (i + 1) := by rw [List.drop_eq_getElem_cons h, hnx]
   have hdb : ba.drop i = y :: ba.drop (i + 1) := by rw [List.drop_eq_getElem_cons hib, hny]
   rw [hda, hdb] at hor
   by_cases hxy : x = y
   ·subst hxy
    rw [uN, if_pos rfl] at hor
    simp [k4, k5, k9, k106, k107, k108, h, hnx, hny, g1, hib, hw, zA]
    exact ⟨⟨i + 1, by omega, g0, g2, rfl, out, rest, hor, hfo, by simpa using k18⟩, by omega⟩
   ·rw [uN, if_neg hxy] at hor
    have hbxy : (x == y) = false := by simpa using hxy
    cases hsx : yP x vs with
    | none => rw [hsx] at hor; cases hor
    | some t =>
    rw [hsx] at hor
    simp only at hor
    cases heq : eqA t x y with
    | none => rw [heq] at hor; cases hor
    | some ea =>
    rw [heq] at hor
    simp only at hor
    cases hre : uN vs (aa.drop (i + 1)) (ba.drop (i + 1)) with
    | none => rw [hre] at hor; cases hor
    | some rest' =>
    rw [hre] at hor
    simp only [Option.some.injEq] at hor
    subst hor
    have m1 := hmf x t hsx
    have v : sp3 cI cI cI sO [.int .i64 t, .int .i64 x, .int .i64 y] = some (vQ (ea, 0)) := (xj (A := cI) (B := cI) (C := cI) (x := t) (y := x) (z := y) trivial trivial trivial).trans (by simp only [sO, heq])
    have hA0 : ∀ Z, (G ++ Z)[0]? = some ⟨3, 0, false, [.p (.agg [.int .i64 ai, .str af, .lst (aa.map fun n => .int .i64 n)])], 26⟩ := fun Z => by rw [List.getElem?_append_left hG0]; exact g0
    have hA1 : ∀ Z, (G ++ Z)[1]? = some ⟨3, 0, false, [.p (.agg [.int .i64 bi, .str af, .lst (ba.map fun n => .int .i64 n)])], 26⟩ := fun Z => by rw [List.getElem?_append_left hG1]; exact g1
    have hA2 : ∀ Z, (G ++ Z)[2]? = some ⟨0, 0, false, es, 0⟩ := fun Z => by rw [List.getElem?_append_left hG2]; exact g2
    simp only [vQ, At.enc] at v
    have hli : cLi.enc ⟨ea, true⟩ = .agg [.int .i64 ea.k, .lst (ea.p.ps.map Pa.enc), .bool ea.p.c.s, .lst (ea.p.c.n.map u64), .lst (ea.p.c.d.map u64), .int .i64 ea.a, .int .i64 ea.b, .bool true] := rfl
    have hfo' : full = (out ++ [⟨ea, true⟩]) ++ rest' := by rw [hfo]; simp
    have hmap : ((out ++ [(⟨ea, true⟩ : Li)]).map cLi.enc).map AVal.p = (out.map cLi.enc).map AVal.p ++ [.p (cLi.enc ⟨ea, true⟩)] := by simp
    rw [hli] at hmap
    simp [k5, k106, k107, k108, h, hnx, hny, g1, hib, hbxy]
    rw [cE]
    refine ⟨[], ?_⟩
    have hb3 : 1 ≤ maxLen := by omega
    have hlo : out.length ≤ aa.length := by
     have := congrArg List.length hfo
     simp at this
     omega
    rcases k18 with ⟨rfl, k18⟩ | ⟨m, w, hm3, k18, gm⟩
    ·simp [k4, k5, k9, k18, k106, k107, k108, hA1, hA2, hny, hib, hG1, hG2, m1, v, zO, qv, hb3, hw, zA, sx, gI]
     refine ⟨⟨i + 1, by omega, (List.getElem?_eq_some_iff.1 (hA0 _)).2, (List.getElem?_eq_some_iff.1 g1).2, (List.getElem?_eq_some_iff.1 g2).2, rfl, [⟨ea, true⟩], rest', hre, by simpa using hfo', _, by omega, _, ⟨rfl, rfl, rfl⟩, ?_⟩, by omega⟩
     rw [jM]
     simp [hli]
    ·have hm : m < G.length := (List.getElem?_eq_some_iff.1 gm).1
     obtain ⟨L, hL⟩ : ∃ L, L = (out.map cLi.enc).map AVal.p := ⟨_, rfl⟩
     have hLl : L.length = out.length := by rw [hL]; simp
     rw [← hL] at gm hmap
     have hM : ∀ Z, (G ++ Z)[m]? = some ⟨8, w, false, L, 80⟩ := fun Z => by rw [List.getElem?_append_left hm]; exact gm
     have hS : ∀ (k : Nat) Z x, k < 3 → ((G ++ Z).set m x)[k]? = G[k]? := fun k Z x hk => by rw [List.getElem?_set_ne (by omega), List.getElem?_append_left (by omega)]
     have hS0 := fun Z x => (hS 0 Z x (by omega)).trans g0
     have hS1 := fun Z x => (hS 1 Z x (by omega)).trans g1
     have hS2 := fun Z x => (hS 2 Z x (by omega)).trans g2
     have hSm : ∀ Z x, ((G ++ Z).set m x)[m]? = some x := fun Z x => List.getElem?_set_self (by simp; omega)
     have hb4 : (out.length + 1) * 112 ≤ 140737488355328 := by omega
     have hb5 : out.length + 1 ≤ maxLen := by omega
     simp [k4, k5, k9, k18, k106, k107, k108, hA1, hA2, hny, hib, hG1, hG2, m1, v, zO, qv, hb4, hb5, hM, hLl, hw, zA, hS2, sx, gI]
     refine ⟨⟨i + 1, by omega, (List.getElem?_eq_some_iff.1 (hS0 _ _)).2, (List.getElem?_eq_some_iff.1 (hS1 _ _)).2, rfl, out ++ [⟨ea, true⟩], rest', hre, hfo', m, hm3, _, ⟨rfl, by simp, rfl⟩, ?_⟩, by omega⟩
     rw [hSm, hL]
     simp [hli]
  ·have hil : i = aa.length := by omega
   subst hil
   rw [List.drop_of_length_le (Nat.le_refl _), List.drop_of_length_le (by omega)] at hor
   simp only [uN, Option.some.injEq] at hor
   subst hor
   rw [List.append_nil] at hfo
   subst hfo
   rcases k18 with ⟨h0, -⟩ | ⟨m, w, hm3, k18, gm⟩
   ·rw [h0] at hfl
    simp at hfl
   ·have m1 := hmf ai s hso
    have v : sp3 cI cI cI t3 [.int .i64 s, .int .i64 ai, .int .i64 bi] = some (.tup [.lst (one.map cLi.enc), .lst (two.map cLi.enc), .int .i64 0]) := (xj (A := cI) (B := cI) (C := cI) (x := s) (y := ai) (z := bi) trivial trivial trivial).trans (by simp only [t3, hen])
    have hlt : (two.map cLi.enc = []) ↔ two = [] := by simp
    have hm : m < G.length := (List.getElem?_eq_some_iff.1 gm).1
    obtain ⟨L, hL⟩ : ∃ L, L = full.map cLi.enc := ⟨_, rfl⟩
    have hLl : L.length = full.length := by rw [hL]; simp
    have hwe : (o0 :: outr ++ one).map cLi.enc = L ++ one.map cLi.enc := by rw [hL, ← hfull]; simp
    have hwt : (o0 :: outr ++ two).map cLi.enc = L ++ two.map cLi.enc := by rw [hL, ← hfull]; simp
    rw [← hL] at gm
    have hone : one.length ≤ 2 ∧ two.length ≤ 2 := by
     unfold rU at hen
     split at hen
     ·split at hen
      ·cases hen; simp
      ·cases hen
     ·split at hen
      ·cases hen; simp
      ·cases hen
    have hcw : cLi.wfL one ∧ cLi.wfL two := by
     unfold rU at hen
     split at hen
     ·split at hen
      ·cases hen
       constructor
       ·intro z hz
        simp at hz
        rcases hz with rfl | rfl <;> exact j8
       ·intro z hz
        simp at hz
        rcases hz with rfl | rfl <;> exact j8
      ·cases hen
     ·split at hen
      ·rename_i a ha
       cases hen
       constructor
       ·intro z hz
        simp at hz
        subst hz
        exact eqA_wf ha
       ·intro z hz
        cases hz
      ·cases hen
    have hcell : ∀ (l : List Li), (l.map (AVal.p ∘ cLi.enc)).all (fun y => y.cells.length == 8 && y.cells.all AVal.isCell) = true := fun l => by
     rw [List.all_eq_true]
     intro z hz
     obtain ⟨u, _, rfl⟩ := List.mem_map.1 hz
     rfl
    have hres : ∀ (H : zb) (n : Nat) (l : List Li), zN (zj H n) (L.map AVal.p ++ l.map (AVal.p ∘ cLi.enc)) = some (L ++ l.map cLi.enc) := fun H n l => by
     have : L.map AVal.p ++ l.map (AVal.p ∘ cLi.enc) = (L ++ l.map cLi.enc).map AVal.p := by simp
     rw [this, wM]
    have hb6 : ∀ l : List Li, l.length ≤ 2 → (full.length + l.length) * 112 ≤ 140737488355328 ∧ full.length + l.length ≤ maxLen := fun l h => by
     have : full.length ≤ aa.length := lfull
     constructor <;> omega
    have app1 : ∀ (H : zb) (k v : Nat) (fz : Bool) (l : List Li), l.length ≤ 2 → H[k]? = some ⟨8, v, fz, L.map AVal.p, 80⟩ → qC 8 112 80 (.own k 0 full.length v) (l.map (AVal.p ∘ cLi.enc)) H = some (.own k 0 (full.length + l.length) (v + 1), H.set k ⟨8, v + 1, fz, L.map AVal.p ++ l.map (AVal.p ∘ cLi.enc), 80⟩) := fun H k v fz l hl hk => by
     have := u9 (bytes := 112) (n := full.length) hk (hcell l) (by decide) (by simp [hLl]) (by simp only [List.length_map, hLl]; exact (hb6 l hl).1) (by simp only [List.length_map, hLl]; exact (hb6 l hl).2)
     simpa using this
    simp only [hwe]
    cases htw : two with
    | nil =>
     subst htw
     simp only [List.map_nil] at v
     have a1 := app1 G m w false one hone.1 gm
     have gs : ∀ x, (G.set m x)[m]? = some x := fun x => List.getElem?_set_self hm
     have ht1 : (L ++ one.map cLi.enc).length = full.length + one.length := by simp [hLl]
     have ht2 : List.take (full.length + one.length) (L.map AVal.p ++ one.map (AVal.p ∘ cLi.enc)) = L.map AVal.p ++ one.map (AVal.p ∘ cLi.enc) := List.take_of_length_le (by simp [hLl])
     simp [k4, k5, k9, k18, k107, k108, g0, g1, g2, m1, v, a1, gs, hres, ht2, hLl, sx, gI, -qC]
    | cons t0 tr =>
     rw [← htw]
     have htl : 0 < two.length := by rw [htw]; simp
     have hte : two.isEmpty = false := by rw [htw]; rfl
     simp only [hte, Bool.false_eq_true, if_false, hwt]
     have htI : (0 : Int) < (two.length : Int) := by omega
     have hcl : vp 8 80 iA [.lst L] = some (.own 0 0 full.length 0, [⟨8, 0, false, L.map AVal.p, 80⟩]) := by
      have : iA [.lst L] = some L := by
       have h1 := cLi.deL full wfull
       rw [← hL] at h1
       simp only [iA, h1]
       rw [hfull]
       simp only
       rw [if_pos (by omega)]
      simp only [vp, this, hLl]
     have hF : freeze1 G m = G.set m ⟨8, w, true, L.map AVal.p, 80⟩ := by
      unfold Abs.freeze1
      rw [gm]
     obtain ⟨F, hFF⟩ : ∃ F, F = G.set m ⟨8, w, true, L.map AVal.p, 80⟩ := ⟨_, rfl⟩
     have hFl : F.length = G.length := by rw [hFF]; simp
     have hFm : F[m]? = some ⟨8, w, true, L.map AVal.p, 80⟩ := by rw [hFF]; exact List.getElem?_set_self hm
     rw [← hFF] at hF
     have ht0 : ∀ n, zN (zj G n) (List.take full.length (L.map AVal.p)) = some L := fun n => by rw [List.take_of_length_le (by simp [hLl]), wM]
     have ht3 : ∀ n, (List.take full.length (L.map AVal.p)).flatMap (zh G n) = [] := fun n => by rw [List.take_of_length_le (by simp [hLl]), yl]
     have hsm : ∀ n, List.map (zk n ∘ AVal.p) L = L.map AVal.p := fun n => by
      apply List.map_congr_left
      intro z _
      simp [zk]
     have a2 := app1 (F ++ [⟨8, 0, false, L.map AVal.p, 80⟩]) G.length 0 false two hone.2 (by rw [← hFl]; simp)
     have a3 := app1 (F ++ [⟨8, 1, false, L.map AVal.p ++ two.map (AVal.p ∘ cLi.enc), 80⟩]) m w true one hone.1 (by rw [List.getElem?_append_left (by omega)]; exact hFm)
     have gs1 : ∀ Z x, ((F ++ Z).set m x)[m]? = some x := fun Z x => List.getElem?_set_self (by simp; omega)
     have gs2 : ∀ z Z x, ((F ++ z :: Z).set m x)[G.length]? = some z := fun z Z x => by rw [List.getElem?_set_ne (by omega), ← hFl]; simp
     have tk1 : List.take (full.length + one.length) (L.map AVal.p ++ one.map (AVal.p ∘ cLi.enc)) = L.map AVal.p ++ one.map (AVal.p ∘ cLi.enc) := List.take_of_length_le (by simp [hLl])
     have tk2 : List.take (full.length + two.length) (L.map AVal.p ++ two.map (AVal.p ∘ cLi.enc)) = L.map AVal.p ++ two.map (AVal.p ∘ cLi.enc) := List.take_of_length_le (by simp [hLl])
     simp [k4, k5, k9, k18, k107, k108, g0, g1, g2, gm, m1, v, htl, ht0, ht3, hcl, hF, hFl, hLl, hsm, qX, a2, a3, gs1, gs2, tk1, tk2, hres, sx, gI, -qC, -getElem?_pos, List.getElem?_cons_zero, List.getElem?_cons_succ]
end Go.Proofs.YtgbjjikaenlkmaaGreat
