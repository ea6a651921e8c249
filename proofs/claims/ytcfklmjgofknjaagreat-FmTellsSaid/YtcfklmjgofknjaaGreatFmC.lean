/-
  Literals as they lie in memory. No conditions beyond the lemmas' own hypotheses.
-/
import Derived.Test.YtcfklmjgofknjaaGreatFmB
set_option linter.unusedSimpArgs false
set_option linter.unnecessarySimpa false
set_option linter.unusedVariables false
set_option linter.constructorNameAsVariable false

/-
 law23: literals and sums as bounds, as they lie in memory.
-/
namespace Go.Proofs.YtcfklmjgofknjaaGreat
open Go Go.Abs Go.Limbs
set_option maxRecDepth 20000
def Lt.wf (x : Lt) : Prop := x.a.p.wf
def decLt : PVal → Option Lt
 | .agg [.int .i64 k, .lst vs, .bool s, .lst xs, .lst ys, .int .i64 a, .int .i64 b, .bool n] => match decPs vs, decU xs, decU ys with | some ps, some l, some m => some ⟨⟨k, ⟨ps, ⟨s, l, m⟩⟩, a, b⟩, n⟩ | _, _, _ => none
 | _ => none
theorem decLt_enc {x : Lt} (h : x.wf) : decLt x.enc = some x := by
 have h : x.a.p.wf := h
 simp only [decLt, Lt.enc, decPs_enc h.1, decU_map h.2.1, decU_map h.2.2]
theorem decLt_some {v : PVal} {x : Lt} (h : decLt v = some x) : v = x.enc ∧ x.wf := by
 unfold decLt at h
 split at h
 ·rename_i k vs s xs ys a b n
  split at h
  ·rename_i ps l m hp hl hm
   cases h
   obtain ⟨rfl, wp⟩ := decPs_some hp
   obtain ⟨rfl, wl⟩ := decU_some hl
   obtain ⟨rfl, wm⟩ := decU_some hm
   exact ⟨rfl, wp, wl, wm⟩
  ·cases h
 ·cases h
def Sd.enc (x : Sd) : PVal := .agg [.lst (x.p.ps.map Pa.enc), .bool x.p.c.s, .lst (x.p.c.n.map u64), .lst (x.p.c.d.map u64), .bool x.s, .bool x.e]
def Sd.wf (x : Sd) : Prop := x.p.wf
def decSd : PVal → Option Sd
 | .agg [.lst vs, .bool s, .lst xs, .lst ys, .bool t, .bool e] => match decPs vs, decU xs, decU ys with | some ps, some l, some m => some ⟨⟨ps, ⟨s, l, m⟩⟩, t, e⟩ | _, _, _ => none
 | _ => none
theorem decSd_enc {x : Sd} (h : x.wf) : decSd x.enc = some x := by
 have h : x.p.wf := h
 simp only [decSd, Sd.enc, decPs_enc h.1, decU_map h.2.1, decU_map h.2.2]
theorem decSd_some {v : PVal} {x : Sd} (h : decSd v = some x) : v = x.enc ∧ x.wf := by
 unfold decSd at h
 split at h
 ·rename_i vs s xs ys t e
  split at h
  ·rename_i ps l m hp hl hm
   cases h
   obtain ⟨rfl, wp⟩ := decPs_some hp
   obtain ⟨rfl, wl⟩ := decU_some hl
   obtain ⟨rfl, wm⟩ := decU_some hm
   exact ⟨rfl, wp, wl, wm⟩
  ·cases h
 ·cases h
def Po.lit (p : Po) (n : Nat) : Bool := decide (p.ps.length ≤ n)
theorem lit_few {p : Po} {n : Nat} (h : p.lit n = true) (hn : n ≤ 1000000) : p.few = true := decide_eq_true (Nat.le_trans (of_decide_eq_true h) hn)
theorem lit_zPo (n : Nat) : zPo.lit n = true := decide_eq_true (Nat.zero_le _)
theorem lit_scale {p : Po} {k : Fr} {n : Nat} (h : p.lit n = true) : (scalePo p k).1.lit n = true := by
 have key : (scalePo p k).1.ps.length ≤ p.ps.length := by
  unfold scalePo
  split
  ·split
   ·split
    ·exact Nat.zero_le _
    ·cases hs : scaleF k p.ps with
     | none => exact Nat.zero_le _
     | some r => exact Nat.le_of_eq (len_scaleF hs)
   ·exact Nat.zero_le _
  ·exact Nat.zero_le _
 exact decide_eq_true (Nat.le_trans key (of_decide_eq_true h))
theorem len_mergeF : ∀ {l r m : List Pa}, mergeF l r = some m → m.length ≤ l.length + r.length
 | [], r, m, h => by rw [merge_nil] at h; cases h; simp
 | x :: l, [], m, h => by rw [merge_nil2] at h; cases h; simp
 | x :: l, y :: r, m, h => by
  by_cases h1 : x.t < y.t
  ·rw [merge_lt h1, Option.map_eq_some_iff] at h
   obtain ⟨s, hs, rfl⟩ := h
   have := len_mergeF hs
   simp only [List.length_cons] at this ⊢
   omega
  ·by_cases h2 : y.t < x.t
   ·rw [merge_gt h2, Option.map_eq_some_iff] at h
    obtain ⟨s, hs, rfl⟩ := h
    have := len_mergeF hs
    simp only [List.length_cons] at this ⊢
    omega
   ·have he : x.t = y.t := by omega
    rw [merge_eq he] at h
    split at h
    ·rw [Option.map_eq_some_iff] at h
     obtain ⟨s, hs, rfl⟩ := h
     have := len_mergeF hs
     simp only [List.length_cons]
     split
     ·omega
     ·simp only [List.length_cons]; omega
    ·cases h
termination_by l r => l.length + r.length
theorem lit_add {p q : Po} {n m : Nat} (h : p.lit n = true) (h' : q.lit m = true) : (addPo p q).1.lit (n + m) = true := by
 have h := of_decide_eq_true h
 have h' := of_decide_eq_true h'
 have key : (addPo p q).1.ps.length ≤ p.ps.length + q.ps.length := by
  unfold addPo
  split
  ·split
   ·cases hs : mergeF p.ps q.ps with
    | none => exact Nat.zero_le _
    | some r => exact len_mergeF hs
   ·exact Nat.zero_le _
  ·exact Nat.zero_le _
 exact decide_eq_true (by omega)
theorem len_dropF (t : Int) : ∀ l : List Pa, (dropF t l).length ≤ l.length
 | [] => Nat.le_refl _
 | x :: r => by
  have := len_dropF t r
  unfold dropF
  split
  ·simp
  ·simp only [List.length_cons]; omega
theorem lit_solve {p : Po} {t : Int} {n : Nat} (h : p.lit n = true) : (solvePo p t).1.lit n = true := by
 unfold solvePo
 split
 ·split
  ·split
   ·refine lit_scale ?_
    exact decide_eq_true (Nat.le_trans (len_dropF t p.ps) (of_decide_eq_true h))
   ·exact lit_zPo n
  ·exact lit_zPo n
 ·exact lit_zPo n
theorem lit_make {k : Int} {p : Po} {n : Nat} (h : p.lit n = true) : (makeAt k p).1.p.lit n = true := by
 unfold makeAt
 split
 ·split
  ·exact lit_zPo n
  ·split
   ·split
    ·exact lit_scale h
    ·exact lit_zPo n
   ·exact lit_zPo n
 ·exact lit_zPo n
theorem lit_not {x : At} {n : Nat} (h : x.p.lit n = true) : (notAt x).1.p.lit n = true := by
 unfold notAt
 split
 ·split
  ·exact lit_make (lit_scale h)
  ·exact lit_zPo n
 ·exact lit_zPo n
theorem wf_ltOf {x : Lt} (h : x.wf) (v : Int) : (ltOf x v).1.wf := by
 unfold ltOf
 split
 ·split
  ·exact h
  ·split
   ·split
    ·split
     ·exact wf_notAt _
     ·exact wf_zPo
    ·exact h
   ·exact wf_zPo
 ·exact wf_zPo
theorem lit_ltOf {x : Lt} {n : Nat} (h : x.a.p.lit n = true) (v : Int) : (ltOf x v).1.p.lit n = true := by
 unfold ltOf
 split
 ·split
  ·exact h
  ·split
   ·split
    ·split
     ·exact lit_not h
     ·exact lit_zPo n
    ·exact h
   ·exact lit_zPo n
 ·exact lit_zPo n
theorem wf_turnL {s : Sd} (h : s.wf) (v : Int) (low : Bool) : (turnL s v low).1.wf := by
 unfold turnL
 split
 ·exact h
 ·split
  ·exact wf_scalePo _ _
  ·exact h
theorem lit_turnL {s : Sd} {n : Nat} (h : s.p.lit n = true) (v : Int) (low : Bool) : (turnL s v low).1.p.lit n = true := by
 unfold turnL
 split
 ·exact h
 ·split
  ·exact lit_scale h
  ·exact h
theorem wf_sidesL {a b : Lt} (ha : a.wf) (hb : b.wf) (v : Int) : (sidesL a b v).1.wf ∧ (sidesL a b v).2.1.wf := by
 unfold sidesL
 split
 ·split
  ·exact ⟨wf_turnL (wf_ltOf ha v) v _, wf_turnL (wf_ltOf hb v) v _⟩
  ·exact ⟨wf_turnL (wf_ltOf hb v) v _, wf_turnL (wf_ltOf ha v) v _⟩
 ·exact ⟨wf_zPo, wf_zPo⟩
theorem lit_sidesL {a b : Lt} {n : Nat} (ha : a.a.p.lit n = true) (hb : b.a.p.lit n = true) (v : Int) : (sidesL a b v).1.p.lit n = true ∧ (sidesL a b v).2.1.p.lit n = true := by
 unfold sidesL
 split
 ·split
  ·exact ⟨lit_turnL (lit_ltOf ha v) v _, lit_turnL (lit_ltOf hb v) v _⟩
  ·exact ⟨lit_turnL (lit_ltOf hb v) v _, lit_turnL (lit_ltOf ha v) v _⟩
 ·exact ⟨lit_zPo n, lit_zPo n⟩
theorem wf_sumL {x : Lt} (h : x.wf) : (sumL x).1.wf := by
 unfold sumL
 split
 ·split
  ·exact h
  ·exact wf_notAt _
 ·exact wf_zPo
theorem lit_sumL {x : Lt} {n : Nat} (h : x.a.p.lit n = true) : (sumL x).1.lit n = true := by
 unfold sumL
 split
 ·split
  ·exact h
  ·exact lit_not h
 ·exact lit_zPo n
theorem wf_sideR {x : Lt} (h : x.wf) (v : Int) (low : Bool) : (sideR x v low).1.wf := by
 unfold sideR
 split
 ·split
  ·exact wf_zPo
  ·split
   ·exact h
   ·exact wf_scalePo _ _
 ·exact wf_sumL h
theorem lit_sideR {x : Lt} {n : Nat} (h : x.a.p.lit n = true) (v : Int) (low : Bool) : (sideR x v low).1.lit n = true := by
 unfold sideR
 split
 ·split
  ·exact lit_zPo n
  ·split
   ·exact h
   ·exact lit_scale h
 ·exact lit_sumL h
def Lt.few (x : Lt) : Bool := x.a.p.lit 1000
def litOf (v : PVal) : Option Lt := match decLt v with | some x => if x.few = true then some x else none | none => none
theorem litOf_enc {x : Lt} (h : x.wf) (f : x.few = true) : litOf x.enc = some x := by
 unfold litOf
 rw [decLt_enc h]
 simp only [f, if_true]
theorem litOf_some {v : PVal} {x : Lt} (h : litOf v = some x) : v = x.enc ∧ x.wf ∧ x.few = true := by
 unfold litOf at h
 split at h
 ·rename_i y hy
  obtain ⟨rfl, w⟩ := decLt_some hy
  split at h
  ·cases h
   exact ⟨rfl, w, by assumption⟩
  ·cases h
 ·cases h
def j1 (g : Lt → PVal) : List PVal → Option PVal
 | [a] => match litOf a with | some x => some (g x) | none => none
 | _ => none
def j1v (g : Lt → Int → PVal) : List PVal → Option PVal
 | [a, .int .i64 v] => match litOf a with | some x => some (g x v) | none => none
 | _ => none
def j1b (g : Lt → Int → Bool → PVal) : List PVal → Option PVal
 | [a, .int .i64 v, .bool low] => match litOf a with | some x => some (g x v low) | none => none
 | _ => none
def j2v (g : Lt → Lt → Int → PVal) : List PVal → Option PVal
 | [a, b, .int .i64 v] => match litOf a, litOf b with | some x, some y => some (g x y v) | _, _ => none
 | _ => none
def j3v (g : Lt → Lt → Lt → Int → PVal) : List PVal → Option PVal
 | [a, b, c, .int .i64 v] => match litOf a, litOf b, litOf c with | some x, some y, some z => some (g x y z v) | _, _, _ => none
 | _ => none
def s1v (g : Sd → Int → PVal) : List PVal → Option PVal
 | [a, .int .i64 v] => match decSd a with | some s => some (g s v) | none => none
 | _ => none
def s1b (g : Sd → Int → Bool → PVal) : List PVal → Option PVal
 | [a, .int .i64 v, .bool low] => match decSd a with | some s => if s.p.few = true then some (g s v low) else none | none => none
 | _ => none
theorem j1_at {g : Lt → PVal} {x : Lt} (h : x.wf) (f : x.few = true) : j1 g [x.enc] = some (g x) := by simp only [j1, litOf_enc h f]
theorem j1v_at {g : Lt → Int → PVal} {x : Lt} {v : Int} (h : x.wf) (f : x.few = true) : j1v g [x.enc, .int .i64 v] = some (g x v) := by simp only [j1v, litOf_enc h f]
theorem j1b_at {g : Lt → Int → Bool → PVal} {x : Lt} {v : Int} {low : Bool} (h : x.wf) (f : x.few = true) : j1b g [x.enc, .int .i64 v, .bool low] = some (g x v low) := by simp only [j1b, litOf_enc h f]
theorem j2v_at {g : Lt → Lt → Int → PVal} {x y : Lt} {v : Int} (h : x.wf) (f : x.few = true) (h' : y.wf) (f' : y.few = true) : j2v g [x.enc, y.enc, .int .i64 v] = some (g x y v) := by simp only [j2v, litOf_enc h f, litOf_enc h' f']
theorem j3v_at {g : Lt → Lt → Lt → Int → PVal} {x y z : Lt} {v : Int} (h : x.wf) (f : x.few = true) (h' : y.wf) (f' : y.few = true) (h2 : z.wf) (f2 : z.few = true) : j3v g [x.enc, y.enc, z.enc, .int .i64 v] = some (g x y z v) := by simp only [j3v, litOf_enc h f, litOf_enc h' f', litOf_enc h2 f2]
theorem s1v_at {g : Sd → Int → PVal} {s : Sd} {v : Int} (h : s.wf) : s1v g [s.enc, .int .i64 v] = some (g s v) := by simp only [s1v, decSd_enc h]
theorem s1b_at {g : Sd → Int → Bool → PVal} {s : Sd} {v : Int} {low : Bool} (h : s.wf) (f : s.p.few = true) : s1b g [s.enc, .int .i64 v, .bool low] = some (g s v low) := by simp only [s1b, decSd_enc h, f, if_true]
theorem j1_some {g : Lt → PVal} {args : List PVal} {z : PVal} (h : j1 g args = some z) : ∃ x : Lt, x.wf ∧ x.few = true ∧ args = [x.enc] ∧ z = g x := by
 unfold j1 at h
 split at h
 ·split at h
  ·rename_i x hx
   obtain ⟨rfl, w, f⟩ := litOf_some hx
   cases h
   exact ⟨x, w, f, rfl, rfl⟩
  ·cases h
 ·cases h
theorem j1v_some {g : Lt → Int → PVal} {args : List PVal} {z : PVal} (h : j1v g args = some z) : ∃ (x : Lt) (v : Int), x.wf ∧ x.few = true ∧ args = [x.enc, .int .i64 v] ∧ z = g x v := by
 unfold j1v at h
 split at h
 ·split at h
  ·rename_i x hx
   obtain ⟨rfl, w, f⟩ := litOf_some hx
   cases h
   exact ⟨x, _, w, f, rfl, rfl⟩
  ·cases h
 ·cases h
theorem j1b_some {g : Lt → Int → Bool → PVal} {args : List PVal} {z : PVal} (h : j1b g args = some z) : ∃ (x : Lt) (v : Int) (low : Bool), x.wf ∧ x.few = true ∧ args = [x.enc, .int .i64 v, .bool low] ∧ z = g x v low := by
 unfold j1b at h
 split at h
 ·split at h
  ·rename_i x hx
   obtain ⟨rfl, w, f⟩ := litOf_some hx
   cases h
   exact ⟨x, _, _, w, f, rfl, rfl⟩
  ·cases h
 ·cases h
theorem j2v_some {g : Lt → Lt → Int → PVal} {args : List PVal} {z : PVal} (h : j2v g args = some z) : ∃ (x y : Lt) (v : Int), x.wf ∧ x.few = true ∧ y.wf ∧ y.few = true ∧ args = [x.enc, y.enc, .int .i64 v] ∧ z = g x y v := by
 unfold j2v at h
 split at h
 ·split at h
  ·rename_i x y hx hy
   obtain ⟨rfl, w, f⟩ := litOf_some hx
   obtain ⟨rfl, w', f'⟩ := litOf_some hy
   cases h
   exact ⟨x, y, _, w, f, w', f', rfl, rfl⟩
  ·cases h
 ·cases h
theorem j3v_some {g : Lt → Lt → Lt → Int → PVal} {args : List PVal} {z : PVal} (h : j3v g args = some z) : ∃ (x y u : Lt) (v : Int), x.wf ∧ x.few = true ∧ y.wf ∧ y.few = true ∧ u.wf ∧ u.few = true ∧ args = [x.enc, y.enc, u.enc, .int .i64 v] ∧ z = g x y u v := by
 unfold j3v at h
 split at h
 ·split at h
  ·rename_i x y u hx hy hu
   obtain ⟨rfl, w, f⟩ := litOf_some hx
   obtain ⟨rfl, w', f'⟩ := litOf_some hy
   obtain ⟨rfl, w2, f2⟩ := litOf_some hu
   cases h
   exact ⟨x, y, u, _, w, f, w', f', w2, f2, rfl, rfl⟩
  ·cases h
 ·cases h
theorem s1v_some {g : Sd → Int → PVal} {args : List PVal} {z : PVal} (h : s1v g args = some z) : ∃ (s : Sd) (v : Int), s.wf ∧ args = [s.enc, .int .i64 v] ∧ z = g s v := by
 unfold s1v at h
 split at h
 ·split at h
  ·rename_i x hx
   obtain ⟨rfl, w⟩ := decSd_some hx
   cases h
   exact ⟨x, _, w, rfl, rfl⟩
  ·cases h
 ·cases h
theorem s1b_some {g : Sd → Int → Bool → PVal} {args : List PVal} {z : PVal} (h : s1b g args = some z) : ∃ (s : Sd) (v : Int) (low : Bool), s.wf ∧ s.p.few = true ∧ args = [s.enc, .int .i64 v, .bool low] ∧ z = g s v low := by
 unfold s1b at h
 split at h
 ·split at h
  ·rename_i x hx
   obtain ⟨rfl, w⟩ := decSd_some hx
   split at h
   ·cases h
    exact ⟨x, _, _, w, by assumption, rfl, rfl⟩
   ·cases h
  ·cases h
 ·cases h
def ltOfP (x : Lt) (v : Int) : PVal := .tup [(ltOf x v).1.enc, .bool (ltOf x v).2]
def lowSP (s : Sd) (v : Int) : PVal := .bool (lowP s.p v)
def tripB (r : Bool × Bool × Nat) : PVal := .tup [.bool r.1, .bool r.2.1, .int .i64 r.2.2]
def boundPL (x : Lt) (v : Int) : PVal := tripB (boundL x v)
def turnP (s : Sd) (v : Int) (low : Bool) : PVal := .tup [(turnL s v low).1.enc, .bool (turnL s v low).2]
def sidesP (a b : Lt) (v : Int) : PVal := .tup [(sidesL a b v).1.enc, (sidesL a b v).2.1.enc, .bool (sidesL a b v).2.2.1, .bool (sidesL a b v).2.2.2]
def oppP (x : Lt) : PVal := (opp x).enc
def pairLs (r : List Lt × Nat) : PVal := .tup [.lst (r.1.map Lt.enc), .int .i64 r.2]
def twoP (a b : Lt) (v : Int) : PVal := pairLs (twoL a b v)
def threeP (a b c : Lt) (v : Int) : PVal := pairLs (threeL a b c v)
def minusP (p : Po) : PVal := pairPo (scalePo p (ofQ (-1)))
def lessP (p q : Po) : PVal := .tup [(⟨(lessC p q).1, false⟩ : Lt).enc, .int .i64 (lessC p q).2]
def triPo (r : Po × Bool × Bool) : PVal := .tup [r.1.enc, .bool r.2.1, .bool r.2.2]
def sumPL (x : Lt) : PVal := triPo (sumL x)
def sidePR (x : Lt) (v : Int) (low : Bool) : PVal := triPo (sideR x v low)
def pairPR (a b : Lt) (v : Int) : PVal := .tup [.bool (pairR a b v).1, .bool (pairR a b v).2]
end Go.Proofs.YtcfklmjgofknjaaGreat

/-
 law23: whether a clause may be, and is weak: the plain law of FmTells.
-/
namespace Go.Proofs.YtcfklmjgofknjaaGreat
open Go Go.Abs Go.Limbs
set_option maxRecDepth 20000
def weakL (lk : Int → Fr) : List Lt → Bool → Bool × Nat
 | [], w => (w, 0)
 | x :: r, w => if (holdsAt lk x.a).2 = 0 then weakL lk r (w && decide ((holdsAt lk x.a).1 = x.n)) else (false, (holdsAt lk x.a).2)
def validLs (l : List Lt) : Bool := l.all fun x => x.a.ok
def stepT (lk : Int → Fr) (s : Bool × Bool × Nat) (x : Lt) : Bool × Bool × Nat :=
 (s.1 && x.a.ok, if s.2.2 = 0 then (s.2.1 && decide ((holdsAt lk x.a).1 = x.n)) else s.2.1, if s.2.2 = 0 then (holdsAt lk x.a).2 else s.2.2)
def loopT (lk : Int → Fr) (l : List Lt) (s : Bool × Bool × Nat) : Bool × Bool × Nat := l.foldl (stepT lk) s
theorem loop_valid (lk : Int → Fr) : ∀ (l : List Lt) (s : Bool × Bool × Nat), (loopT lk l s).1 = (s.1 && validLs l)
 | [], s => by simp [loopT, validLs]
 | x :: r, s => by
  have := loop_valid lk r (stepT lk s x)
  show (loopT lk r (stepT lk s x)).1 = _
  rw [this]
  simp [stepT, validLs, Bool.and_assoc]
theorem loop_stay (lk : Int → Fr) : ∀ (l : List Lt) (s : Bool × Bool × Nat), s.2.2 ≠ 0 → (loopT lk l s).2 = s.2
 | [], s, _ => rfl
 | x :: r, s, h => by
  have e : (stepT lk s x).2 = s.2 := by unfold stepT; rw [if_neg h, if_neg h]
  have := loop_stay lk r (stepT lk s x) (by rw [e]; exact h)
  show (loopT lk r (stepT lk s x)).2 = _
  rw [this, e]
theorem loop_weak (lk : Int → Fr) : ∀ (l : List Lt) (s : Bool × Bool × Nat), s.2.2 = 0 → (weakL lk l s.2.1).2 = (loopT lk l s).2.2 ∧ ((weakL lk l s.2.1).2 = 0 → (weakL lk l s.2.1).1 = (loopT lk l s).2.1)
 | [], s, h => ⟨h.symm, fun _ => rfl⟩
 | x :: r, s, h => by
  have e : (stepT lk s x).2 = (s.2.1 && decide ((holdsAt lk x.a).1 = x.n), (holdsAt lk x.a).2) := by unfold stepT; rw [if_pos h, if_pos h]
  show (weakL lk (x :: r) s.2.1).2 = (loopT lk r (stepT lk s x)).2.2 ∧ ((weakL lk (x :: r) s.2.1).2 = 0 → (weakL lk (x :: r) s.2.1).1 = (loopT lk r (stepT lk s x)).2.1)
  unfold weakL
  by_cases h0 : (holdsAt lk x.a).2 = 0
  ·rw [if_pos h0]
   have := loop_weak lk r (stepT lk s x) (by rw [e]; exact h0)
   rw [e] at this
   exact this
  ·rw [if_neg h0]
   have := loop_stay lk r (stepT lk s x) (by rw [e]; exact h0)
   rw [this, e]
   exact ⟨rfl, fun h => absurd h h0⟩
theorem weak_law (lk : Int → Fr) (l : List Lt) : (loopT lk l (true, true, 0)).1 = validLs l ∧ (weakL lk l true).2 = (loopT lk l (true, true, 0)).2.2 ∧ ((weakL lk l true).2 = 0 → (weakL lk l true).1 = (loopT lk l (true, true, 0)).2.1) := by
 refine ⟨?_, (loop_weak lk l (true, true, 0) rfl).1, (loop_weak lk l (true, true, 0) rfl).2⟩
 rw [loop_valid]
 rfl
end Go.Proofs.YtcfklmjgofknjaaGreat
