/-
  QuickTells and QuickSure answer true on all values. AcvNo conditions beyond the lemmas' own hypotheses.
-/
import Derived.Test.YtbdccebpehogjaaQuickE
set_option linter.unusedSimpArgs false
set_option linter.unnecessarySimpa false
set_option linter.unusedVariables false
set_option linter.constructorNameAsVariable false

/-
 QuickTells, QuickSure and QuickOrder answer true on all values.
-/
namespace Go.Proofs.Ytbdccebpehogjaa
open Go Go.Abs Go.Flo Go.Limbs
variable {base : Prot}
set_option maxRecDepth 20000
attribute [local irreducible] vc
attribute [local simp] pureS touchV freezeL fuel shiftV u64 au
variable {S : Nat → List PVal → Option PVal}
theorem lenT {α : Type} {l : List α} {k : Nat} (h : k < l.length) : ((k : Int) < (l.length : Int)) = True := by simp; omega
theorem lenF {α : Type} {l : List α} {k : Nat} (h : ¬ k < l.length) : ((k : Int) < (l.length : Int)) = False := by simp; omega
theorem tells_walk {s s1 o : Bool} {xs ys x1 y1 : List PVal} {f a b : Nat} (v0 : S 0 [] = some (.bool true)) (v1 : S 1 [.flt .f64 f] = some (.tup [.agg [.bool s1, .lst x1, .lst y1], .bool o])) (v2 : S 2 [.flt .f64 f] = some (.tup [.agg [.bool s1, .lst x1, .lst y1], .bool o]))
  (v3 : S 3 [.agg [.bool s, .lst xs, .lst ys]] = some (.cpx .f64 a b)) (v4 : S 4 [.agg [.bool s, .lst xs, .lst ys]] = some (.cpx .f64 a b)) (v5 : S 5 [.cpx .f64 a b, .cpx .f64 a b] = some (.bool true)) (v6 : S 6 [.agg [.bool s1, .lst x1, .lst y1], .agg [.bool s1, .lst x1, .lst y1]] = some (.bool true)) :
  vc (Tq5 S) lf3.body (endQ (Tq5 S) lf3.results (.bool true)) (initFr [.p (.agg [.bool s, .lst xs, .lst ys]), .p (.flt .f64 f)]) [] := by
 by_cases h1 : 30 < xs.length
 ·have h1 := lenT h1
  simp only [show ((30 : Nat) : Int) = 30 from rfl] at h1
  simp [lf3, fillA, h1, v0, Tq5_mu, Tq5_a, Tq5_b]
 have h1 := lenF h1
 by_cases h2 : 30 < ys.length
 ·have h2 := lenT h2
  simp only [show ((30 : Nat) : Int) = 30 from rfl] at h1 h2
  simp [lf3, fillA, h1, h2, v0, Tq5_mu, Tq5_a, Tq5_b]
 have h2 := lenF h2
 simp only [show ((30 : Nat) : Int) = 30 from rfl] at h1 h2
 simp [lf3, fillA, h1, h2, v0, v1, v2, v3, v4, v5, v6, Tq5_mu, Tq5_a, Tq5_b]
def sTells5 : List PVal → Option PVal
 | [v, .flt .f64 f] => match decF v with | some _ => if f < 18446744073709551616 then some (.bool true) else none | none => none
 | _ => none
theorem eqW_self {a : Nat} (h : NoNaN a) : eqW a a = true := by
 unfold eqW
 rw [decide_eq_true h.2, decide_eq_true rfl]; rfl
theorem bound_words (x : Fr) : ∃ a b, boundF x = .cpx .f64 a b ∧ NoNaN a ∧ NoNaN b := by
 unfold boundF
 split
 ·obtain ⟨h1, h2, h3, h4, _⟩ := k_bd x.q
  exact ⟨_, _, rfl, noNaN_wk (by omega), noNaN_wk (by omega)⟩
 ·exact ⟨0, 0, rfl, ⟨by decide, by decide⟩, ⟨by decide, by decide⟩⟩
theorem tells5_ok : FnOk Try.prog base 3 (pureS sTells5) := by
 refine pure_of_vc vmix (Tq5_ok (S5_ok aw5_ok)) globNone low3 fun args z hs hf => ?_
 unfold sTells5 at hs
 split at hs
 case h_2 => cases hs
 rename_i v f
 split at hs
 case h_2 => cases hs
 rename_i x hd
 split at hs
 case isFalse => cases hs
 rename_i hb
 obtain ⟨rfl, wx⟩ := decF_some hd
 cases hs
 refine ⟨by simp [lf3], ?_⟩
 obtain ⟨a, b, e, na, nb⟩ := bound_words x
 have v3 : f1 boundF [x.enc] = some (.cpx .f64 a b) := by rw [f1_at wx, e]
 have v5 : sSameC [.cpx .f64 a b, .cpx .f64 a b] = some (.bool true) := by
  simp only [sSameC]
  rw [if_pos ⟨⟨na.1, nb.1⟩, na.1, nb.1⟩, eqW_self na, eqW_self nb]; rfl
 have v1 : sBack5 [.flt .f64 f] = some (backP f) := if_pos hb
 by_cases h : rg f < 9218868437227405312
 ·rw [backP_fin h] at v1
  have v6 := sameP_self (vlQ f)
  rw [enc_ofQ] at v1 v6
  simp only [Fr.enc] at v3 ⊢
  exact tells_walk (S := S5 sAw5) rfl v1 v1 v3 v3 v5 v6
 ·have v6 : f2 sameP [zF.enc, zF.enc] = some (.bool true) := sameP_wf wf_zF
  rw [backP_bad h] at v1
  simp only [Fr.enc] at v3 ⊢
  exact tells_walk (S := S5 sAw5) rfl v1 v1 v3 v3 v5 v6
theorem sure_walk {s t ok1 ok2 l sr cd : Bool} {xs ys us vs : List PVal} {a1 a2 b1 b2 : Nat} {k : Int} (v0 : S 0 [] = some (.bool true)) (v1 : S 7 [.agg [.bool s, .lst xs, .lst ys]] = some (.bool ok1)) (v2 : S 7 [.agg [.bool t, .lst us, .lst vs]] = some (.bool ok2))
  (v3 : S 3 [.agg [.bool s, .lst xs, .lst ys]] = some (.cpx .f64 a1 a2)) (v4 : S 3 [.agg [.bool t, .lst us, .lst vs]] = some (.cpx .f64 b1 b2)) (v5 : ok1 = true → ok2 = true → S 13 [.cpx .f64 a1 a2, .cpx .f64 b1 b2] = some (.tup [.bool l, .bool sr]) ∧ S 11 [.agg [.bool s, .lst xs, .lst ys], .agg [.bool t, .lst us, .lst vs]] = some (.int .i64 k) ∧
   (sr = true → l = decide (k < 0)) ∧ (sr = false → l = false) ∧ binF .lss .f64 a2 b1 = some (.bool cd) ∧ (cd = true → sr = true) ∧ (cd = false → binF .geq .f64 a1 b2 = some (.bool sr))) :
  vc (Tq5 S) lf5.body (endQ (Tq5 S) lf5.results (.bool true)) (initFr [.p (.agg [.bool s, .lst xs, .lst ys]), .p (.agg [.bool t, .lst us, .lst vs])]) [] := by
 by_cases h1 : 10 < xs.length
 ·have h1 := lenT h1
  simp only [show ((10 : Nat) : Int) = 10 from rfl] at h1
  simp [lf5, fillA, h1, v0, Tq5_mu, Tq5_a, Tq5_b]
 have h1 := lenF h1
 by_cases h2 : 10 < ys.length
 ·have h2 := lenT h2
  simp only [show ((10 : Nat) : Int) = 10 from rfl] at h1 h2
  simp [lf5, fillA, h1, h2, v0, Tq5_mu, Tq5_a, Tq5_b]
 have h2 := lenF h2
 by_cases h3 : 10 < us.length
 ·have h3 := lenT h3
  simp only [show ((10 : Nat) : Int) = 10 from rfl] at h1 h2 h3
  simp [lf5, fillA, h1, h2, h3, v0, Tq5_mu, Tq5_a, Tq5_b]
 have h3 := lenF h3
 by_cases h4 : 10 < vs.length
 ·have h4 := lenT h4
  simp only [show ((10 : Nat) : Int) = 10 from rfl] at h1 h2 h3 h4
  simp [lf5, fillA, h1, h2, h3, h4, v0, Tq5_mu, Tq5_a, Tq5_b]
 have h4 := lenF h4
 simp only [show ((10 : Nat) : Int) = 10 from rfl] at h1 h2 h3 h4
 cases ok1 with
 | false => simp [lf5, fillA, h1, h2, h3, h4, v0, v1, Tq5_mu, Tq5_a, Tq5_b]
 | true =>
  cases ok2 with
  | false => simp [lf5, fillA, h1, h2, h3, h4, v0, v1, v2, Tq5_mu, Tq5_a, Tq5_b]
  | true =>
   obtain ⟨w1, w2, w3, w4, w5, w6, w7⟩ := v5 rfl rfl
   cases cd with
   | true =>
    have := w6 rfl
    subst this
    have := w3 rfl
    subst this
    simp [lf5, fillA, h1, h2, h3, h4, v0, v1, v2, v3, v4, w1, w2, w5, Tq5_mu, Tq5_a, Tq5_b]
   | false =>
    have w7 := w7 rfl
    cases sr with
    | true =>
     have := w3 rfl
     subst this
     simp [lf5, fillA, h1, h2, h3, h4, v0, v1, v2, v3, v4, w1, w2, w5, w7, Tq5_mu, Tq5_a, Tq5_b]
    | false =>
     have := w4 rfl
     subst this
     simp [lf5, fillA, h1, h2, h3, h4, v0, v1, v2, v3, v4, w1, w2, w5, w7, Tq5_mu, Tq5_a, Tq5_b]
def sTwo5 : List PVal → Option PVal
 | [v, u] => match decF v, decF u with | some _, some _ => some (.bool true) | _, _ => none
 | _ => none
theorem cmp_cross {p q : Rat} : cmpQ p q < 0 ↔ p.num * q.den < q.num * p.den := by
 unfold cmpQ cmpZ
 split
 ·simp; omega
 ·split <;> simp <;> omega
theorem sure5_ok : FnOk Try.prog base 5 (pureS sTwo5) := by
 refine pure_of_vc vmix (Tq5_ok (S5_ok aw5_ok)) globNone low5 fun args z hs hf => ?_
 unfold sTwo5 at hs
 split at hs
 case h_2 => cases hs
 rename_i v u
 split at hs
 case h_2 => cases hs
 rename_i x y hdx hdy
 obtain ⟨rfl, wx⟩ := decF_some hdx
 obtain ⟨rfl, wy⟩ := decF_some hdy
 cases hs
 refine ⟨by simp [lf5], ?_⟩
 obtain ⟨a1, a2, ea, na1, na2⟩ := bound_words x
 obtain ⟨b1, b2, eb, nb1, nb2⟩ := bound_words y
 have v1 : f1 boolF [x.enc] = some (.bool x.ok) := vF wx
 have v2 : f1 boolF [y.enc] = some (.bool y.ok) := vF wy
 have v3 : f1 boundF [x.enc] = some (.cpx .f64 a1 a2) := by rw [f1_at wx, ea]
 have v4 : f1 boundF [y.enc] = some (.cpx .f64 b1 b2) := by rw [f1_at wy, eb]
 have v5 : sLess [.cpx .f64 a1 a2, .cpx .f64 b1 b2] = some (.tup [.bool (lessW a2 b1 a1 b2).1, .bool (lessW a2 b1 a1 b2).2]) := if_pos ⟨⟨na1, na2⟩, nb1, nb2⟩
 have v6 : f2 cmpP [x.enc, y.enc] = some (.int .i64 (cmpF x y)) := f2_at wx wy
 simp only [Fr.enc] at v1 v2 v3 v4 v6 ⊢
 refine sure_walk (S := S5 sAw5) (cd := decide (ky a2 < ky b1)) rfl v1 v2 v3 v4 fun ho1 ho2 => ⟨v5, v6, ?_⟩
 obtain ⟨p, hp, rfl⟩ := Fr.ok_of ho1
 obtain ⟨q, hq, rfl⟩ := Fr.ok_of ho2
 rw [boundF_num hp] at ea
 rw [boundF_num hq] at eb
 have pb := k_bd p
 have qb := k_bd q
 have f1 := (ord_lt na2 nb1).1
 have f2 := (ord_lt na1 nb2).2.2.2.1
 cases ea
 cases eb
 rw [cmpF_num hp hq]
 have k1 := ky_wk (k := kLo p) (by omega)
 have k2 := ky_wk (k := kHi p) (by omega)
 have k3 := ky_wk (k := kLo q) (by omega)
 have k4 := ky_wk (k := kHi q) (by omega)
 rw [k2, k3] at f1
 rw [k1, k4] at f2
 unfold lessW
 rw [k1, k2, k3, k4]
 by_cases e1 : kHi p < kLo q
 ·rw [decide_eq_true e1] at f1
  rw [if_pos e1, decide_eq_true e1]
  refine ⟨fun _ => ?_, fun h => (by cases h), f1, fun _ => rfl, fun h => (by cases h)⟩
  exact (decide_eq_true (cmp_cross.2 (less_sure e1))).symm
 ·rw [decide_eq_false e1] at f1
  rw [if_neg e1, decide_eq_false e1]
  by_cases e2 : kHi q ≤ kLo p
  ·rw [decide_eq_true e2] at f2
   rw [if_pos e2]
   refine ⟨fun _ => ?_, fun h => (by cases h), f1, fun h => (by cases h), fun _ => f2⟩
   have := least_sure e2
   exact (decide_eq_false (fun h => by have := cmp_cross.1 h; omega)).symm
  ·rw [decide_eq_false e2] at f2
   rw [if_neg e2]
   exact ⟨fun h => (by cases h), fun _ => rfl, f1, fun h => (by cases h), fun _ => f2⟩
end Go.Proofs.Ytbdccebpehogjaa
