/-
  Fractions as pure values: lowest terms, sums, products, quotients, the order, sizes. No conditions beyond the lemmas' own hypotheses. What rat's functions compute: what is one, lowest terms, the order, signs, sums, products, quotients, fractions of whole numbers. No conditions beyond the lemmas' own hypotheses.
-/
import Derived.Test.YtgbjjikaenlkmaaGreatWholeIB
import Derived.Test.YtgbjjikaenlkmaaGreatRatA
set_option linter.unusedSimpArgs false
set_option linter.unnecessarySimpa false
set_option linter.unusedVariables false
set_option linter.constructorNameAsVariable false

/-
 Fractions as pure values: what is one, lowest terms, sums, products, quotients, the order.
-/
namespace Go.Proofs.YtgbjjikaenlkmaaGreat
open Go Go.Abs Go.Limbs
set_option maxRecDepth 20000
structure Fr where
 s : Bool
 n : List Nat
 d : List Nat
def Fr.wf (x : Fr) : Prop := Wf x.n ∧ Wf x.d
def Fr.enc (x : Fr) : PVal := .agg [.bool x.s, .lst (x.n.map u64), .lst (x.d.map u64)]
def decF : PVal → Option Fr
 | .agg [.bool s, .lst xs, .lst ys] => match decU xs, decU ys with | some l, some m => some ⟨s, l, m⟩ | _, _ => none
 | _ => none
theorem decF_enc {x : Fr} (h : x.wf) : decF x.enc = some x := by simp only [decF, Fr.enc, decU_map h.1, decU_map h.2]
theorem decF_some {v : PVal} {x : Fr} (h : decF v = some x) : v = x.enc ∧ x.wf := by
 unfold decF at h
 split at h
 ·rename_i s xs ys
  split at h
  ·rename_i l m hl hm
   cases h
   obtain ⟨rfl, wl⟩ := decU_some hl
   obtain ⟨rfl, wm⟩ := decU_some hm
   exact ⟨rfl, wl, wm⟩
  ·cases h
 ·cases h
def Fr.ok (x : Fr) : Bool := okL x.n && okL x.d && decide (val x.d ≠ 0) && (!x.s || decide (val x.n ≠ 0)) && (Nat.gcd (val x.n) (val x.d) == 1)
def Fr.q (x : Fr) : Rat := mkRat (zOf x.s (val x.n)) (val x.d)
def ofQ (q : Rat) : Fr := ⟨decide (q.num < 0), limbs q.num.natAbs, limbs q.den⟩
def zF : Fr := ⟨false, [], []⟩
def Sm (k : Nat) (q : Rat) : Prop := len q.num.natAbs ≤ k ∧ len q.den ≤ k
instance (k : Nat) (q : Rat) : Decidable (Sm k q) := inferInstanceAs (Decidable (_ ∧ _))
theorem wf_ofQ (q : Rat) : (ofQ q).wf := ⟨wf_limbs _, wf_limbs _⟩
theorem wf_zF : zF.wf := ⟨Wf.nil, Wf.nil⟩
theorem q_ofQ (q : Rat) : (ofQ q).q = q := by
 unfold Fr.q ofQ
 simp only [val_limbs, zOf_sign, Rat.mkRat_self]
theorem sign_zOf {s : Bool} {a : Nat} (h : s = true → a ≠ 0) : s = decide (zOf s a < 0) := by
 cases s with
 | false => simp [zOf]
 | true => have := h rfl; simp [zOf]; omega
theorem Fr.ok_of {x : Fr} (h : x.ok = true) : ∃ q : Rat, Sm 64 q ∧ x = ofQ q := by
 obtain ⟨s, n, d⟩ := x
 unfold Fr.ok at h
 simp only [Bool.and_eq_true, Bool.or_eq_true, Bool.not_eq_true', decide_eq_true_eq, beq_iff_eq] at h
 obtain ⟨⟨⟨⟨h1, h2⟩, h3⟩, h4⟩, h5⟩ := h
 obtain ⟨a, rfl, ha⟩ := okL_true h1
 obtain ⟨b, rfl, hb⟩ := okL_true h2
 rw [val_limbs] at h3 h4
 rw [val_limbs, val_limbs] at h5
 have hs : s = true → a ≠ 0 := fun e => by
  rcases h4 with h | h
  ·rw [e] at h; cases h
  ·exact h
 refine ⟨⟨zOf s a, b, h3, by rw [zOf_abs]; exact h5⟩, ⟨by show len (zOf s a).natAbs ≤ 64; rw [zOf_abs]; exact ha, hb⟩, ?_⟩
 unfold ofQ
 simp only [zOf_abs]
 rw [← sign_zOf hs]
theorem ok_ofQ {q : Rat} (h : Sm 64 q) : (ofQ q).ok = true := by
 unfold Fr.ok ofQ
 simp only [val_limbs, okL_limbs h.1, okL_limbs h.2, Bool.true_and, Bool.and_true, Bool.and_eq_true, Bool.or_eq_true, Bool.not_eq_true', decide_eq_true_eq, decide_eq_false_iff_not, beq_iff_eq]
 refine ⟨⟨q.den_nz, ?_⟩, q.reduced⟩
 by_cases hn : q.num < 0
 ·exact .inr (by omega)
 ·exact .inl hn
theorem mk_num (s : Bool) (a : Nat) {b : Nat} (hb : b ≠ 0) : (mkRat (zOf s a) b).num = zOf s (a / Nat.gcd a b) := by
 rw [Rat.num_mkRat, if_neg hb, zOf_abs, Nat.gcd_comm]
 have hd : ((Nat.gcd a b : Nat) : Int) ∣ (a : Int) := Int.natCast_dvd_natCast.2 (Nat.gcd_dvd_left a b)
 cases s with
 | false => simp [zOf]
 | true =>
  simp only [zOf, if_true]
  rw [Int.neg_ediv_of_dvd hd, Int.natCast_ediv]
theorem mk_den (s : Bool) (a : Nat) {b : Nat} (hb : b ≠ 0) : (mkRat (zOf s a) b).den = b / Nat.gcd a b := by
 rw [Rat.den_mkRat, if_neg hb, zOf_abs, Nat.gcd_comm]
theorem ofQ_mk (s : Bool) (a : Nat) {b : Nat} (hb : b ≠ 0) : ofQ (mkRat (zOf s a) b) = ⟨s && decide (0 < (limbs (a / Nat.gcd a b)).length), limbs (a / Nat.gcd a b), limbs (b / Nat.gcd a b)⟩ := by
 unfold ofQ
 rw [mk_num s a hb, mk_den s a hb, zOf_abs]
 congr 1
 obtain ⟨m, hm⟩ : ∃ m, m = a / Nat.gcd a b := ⟨_, rfl⟩
 rw [← hm]
 by_cases h : m = 0
 ·subst h
  cases s <;> simp [zOf, limbs_zero]
 ·have hl : 0 < (limbs m).length := by
   have : (limbs m).length ≠ 0 := fun e => h (len_eq_zero.1 e)
   omega
  rw [decide_eq_true hl, Bool.and_true, ← sign_zOf fun _ => h]
def heldQ (q : Rat) : Fr × Nat := if Sm 64 q then (ofQ q, 0) else (zF, 4)
theorem heldQ_ok {q : Rat} (h : Sm 64 q) : heldQ q = (ofQ q, 0) := if_pos h
theorem wf_heldQ (q : Rat) : (heldQ q).1.wf := by
 unfold heldQ
 split
 ·exact wf_ofQ q
 ·exact wf_zF
theorem heldQ_mk (s : Bool) (a : Nat) {b : Nat} (hb : b ≠ 0) : heldQ (mkRat (zOf s a) b) = if len (a / Nat.gcd a b) ≤ 64 ∧ len (b / Nat.gcd a b) ≤ 64 then (⟨s && decide (0 < (limbs (a / Nat.gcd a b)).length), limbs (a / Nat.gcd a b), limbs (b / Nat.gcd a b)⟩, 0) else (zF, 4) := by
 have e : Sm 64 (mkRat (zOf s a) b) ↔ len (a / Nat.gcd a b) ≤ 64 ∧ len (b / Nat.gcd a b) ≤ 64 := by
  unfold Sm
  rw [mk_num s a hb, mk_den s a hb, zOf_abs]
 unfold heldQ
 by_cases h : Sm 64 (mkRat (zOf s a) b)
 ·rw [if_pos h, if_pos (e.1 h), ofQ_mk s a hb]
 ·rw [if_neg h, if_neg fun hh => h (e.2 hh)]
theorem add_mk (p q : Rat) : mkRat (p.num * q.den + q.num * p.den) (p.den * q.den) = p + q := by
 have := Rat.mkRat_add_mkRat p.num q.num p.den_nz q.den_nz
 rw [Rat.mkRat_self, Rat.mkRat_self] at this
 exact this.symm
theorem mul_mk (p q : Rat) : mkRat (p.num * q.num) (p.den * q.den) = p * q := by
 have := Rat.mkRat_mul_mkRat p.num q.num p.den q.den
 rw [Rat.mkRat_self, Rat.mkRat_self] at this
 exact this.symm
theorem div_of_mul {x p q : Rat} (hq : q ≠ 0) (h : x * q = p) : x = p / q := by
 rw [← h, Rat.div_def, Rat.mul_assoc, Rat.mul_inv_cancel q hq, Rat.mul_one]
theorem quo_mk (p : Rat) {q : Rat} (hq : q ≠ 0) : mkRat (zOf (decide (p.num < 0) != decide (q.num < 0)) (p.num.natAbs * q.den)) (p.den * q.num.natAbs) = p / q := by
 have hn : q.num ≠ 0 := fun e => hq (Rat.num_eq_zero.1 e)
 refine div_of_mul hq ?_
 have h := Rat.mkRat_mul_mkRat (zOf (decide (p.num < 0) != decide (q.num < 0)) (p.num.natAbs * q.den)) q.num (p.den * q.num.natAbs) q.den
 rw [Rat.mkRat_self] at h
 rw [h]
 conv => rhs; rw [← Rat.mkRat_self p]
 have hD : p.den * q.num.natAbs * q.den ≠ 0 := Nat.mul_ne_zero (Nat.mul_ne_zero p.den_nz (by omega)) q.den_nz
 rw [Rat.mkRat_eq_iff hD p.den_nz]
 have e1 := zOf_sign p.num
 have e2 := zOf_sign q.num
 obtain ⟨a, ha⟩ : ∃ a, a = p.num.natAbs := ⟨_, rfl⟩
 obtain ⟨b, hb⟩ : ∃ b, b = q.num.natAbs := ⟨_, rfl⟩
 obtain ⟨s, hs⟩ : ∃ s, s = decide (p.num < 0) := ⟨_, rfl⟩
 obtain ⟨t, ht⟩ : ∃ t, t = decide (q.num < 0) := ⟨_, rfl⟩
 rw [← ha, ← hs] at e1
 rw [← hb, ← ht] at e2
 rw [← ha, ← hb, ← hs, ← ht, ← e1, ← e2]
 generalize q.den = u
 generalize p.den = v
 clear e1 e2 ha hb hs ht
 cases s <;> cases t <;> simp [zOf] <;> grind
theorem ofQ_neg (q : Rat) : ofQ (-q) = ⟨!decide (q.num < 0) && decide (0 < (limbs q.num.natAbs).length), limbs q.num.natAbs, limbs q.den⟩ := by
 unfold ofQ
 rw [Rat.neg_num, Rat.neg_den, Int.natAbs_neg]
 congr 1
 by_cases h : q.num = 0
 ·rw [h]; simp [limbs_zero]
 ·have hl : 0 < (limbs q.num.natAbs).length := by
   have : (limbs q.num.natAbs).length ≠ 0 := fun e => h (by have := len_eq_zero.1 e; omega)
   omega
  rw [decide_eq_true hl, Bool.and_true]
  by_cases h2 : q.num < 0
  ·simp [h2]; omega
  ·simp [h2]; omega
theorem Sm_neg {k : Nat} {q : Rat} (h : Sm k q) : Sm k (-q) := by
 unfold Sm at *
 rw [Rat.neg_num, Rat.neg_den, Int.natAbs_neg]
 exact h
def cmpQ (p q : Rat) : Int := cmpZ (p.num * q.den) (q.num * p.den)
theorem cmpQ_lt {p q : Rat} (h : p < q) : cmpQ p q = -1 := by
 unfold cmpQ cmpZ
 rw [if_pos ((Rat.lt_iff p q).1 h)]
theorem cmpQ_eq (p : Rat) : cmpQ p p = 0 := by
 unfold cmpQ cmpZ
 rw [if_neg (by omega), if_pos rfl]
theorem cmpQ_gt {p q : Rat} (h : q < p) : cmpQ p q = 1 := by
 have h' := (Rat.lt_iff q p).1 h
 unfold cmpQ cmpZ
 rw [if_neg (by omega), if_neg (by omega)]
theorem rat_tri (p q : Rat) : p < q ∨ p = q ∨ q < p := by
 by_cases h : q ≤ p
 ·by_cases h2 : p ≤ q
  ·exact .inr (.inl (Rat.le_antisymm h2 h))
  ·exact .inr (.inr (Rat.not_le.1 h2))
 ·exact .inl (Rat.not_le.1 h)
theorem lt_irr (p : Rat) : ¬ p < p := fun h => absurd ((Rat.lt_iff p p).1 h) (by omega)
theorem cmpQ_zero_iff {p q : Rat} : cmpQ p q = 0 ↔ p = q := by
 rcases rat_tri p q with h | h | h
 ·rw [cmpQ_lt h]; simp; rintro rfl; exact lt_irr _ h
 ·subst h; rw [cmpQ_eq]; simp
 ·rw [cmpQ_gt h]; simp; rintro rfl; exact lt_irr _ h
theorem cmpQ_case (p q : Rat) : cmpQ p q = -1 ∨ cmpQ p q = 0 ∨ cmpQ p q = 1 := by
 rcases rat_tri p q with h | h | h
 ·exact .inl (cmpQ_lt h)
 ·subst h; exact .inr (.inl (cmpQ_eq p))
 ·exact .inr (.inr (cmpQ_gt h))
def addF (x y : Fr) : Fr × Nat := if x.ok && y.ok then heldQ (x.q + y.q) else (zF, 1)
def mulF (x y : Fr) : Fr × Nat := if x.ok && y.ok then heldQ (x.q * y.q) else (zF, 1)
def quoF (x y : Fr) : Fr × Nat := if x.ok && y.ok && decide (y.q ≠ 0) then heldQ (x.q / y.q) else (zF, 1)
def signF (x : Fr) : Int := if x.ok then cmpQ x.q 0 else 0
def negF (x : Fr) : Fr := if x.ok then ofQ (-x.q) else zF
theorem addF_num {p q : Rat} (hp : Sm 64 p) (hq : Sm 64 q) : addF (ofQ p) (ofQ q) = heldQ (p + q) := by unfold addF; rw [ok_ofQ hp, ok_ofQ hq, q_ofQ, q_ofQ]; rfl
theorem mulF_num {p q : Rat} (hp : Sm 64 p) (hq : Sm 64 q) : mulF (ofQ p) (ofQ q) = heldQ (p * q) := by unfold mulF; rw [ok_ofQ hp, ok_ofQ hq, q_ofQ, q_ofQ]; rfl
theorem quoF_num {p q : Rat} (hp : Sm 64 p) (hq : Sm 64 q) (h0 : q ≠ 0) : quoF (ofQ p) (ofQ q) = heldQ (p / q) := by unfold quoF; rw [ok_ofQ hp, ok_ofQ hq, q_ofQ, q_ofQ]; simp [h0]
theorem signF_num {p : Rat} (hp : Sm 64 p) : signF (ofQ p) = cmpQ p 0 := by unfold signF; rw [ok_ofQ hp, q_ofQ]; rfl
theorem negF_num {p : Rat} (hp : Sm 64 p) : negF (ofQ p) = ofQ (-p) := by unfold negF; rw [ok_ofQ hp, q_ofQ]; rfl
theorem wf_addF (x y : Fr) : (addF x y).1.wf := by unfold addF; split; exact wf_heldQ _; exact wf_zF
theorem wf_mulF (x y : Fr) : (mulF x y).1.wf := by unfold mulF; split; exact wf_heldQ _; exact wf_zF
theorem wf_quoF (x y : Fr) : (quoF x y).1.wf := by unfold quoF; split; exact wf_heldQ _; exact wf_zF
theorem wf_negF (x : Fr) : (negF x).wf := by unfold negF; split; exact wf_ofQ _; exact wf_zF
def pairF (p : Fr × Nat) : PVal := .tup [p.1.enc, .int .i64 p.2]
def boolF (x : Fr) : PVal := .bool x.ok
def f1 (g : Fr → PVal) : List PVal → Option PVal
 | [a] => match decF a with | some x => some (g x) | none => none
 | _ => none
def f2 (g : Fr → Fr → PVal) : List PVal → Option PVal
 | [a, b] => match decF a, decF b with | some x, some y => some (g x y) | _, _ => none
 | _ => none
theorem f1_at {g : Fr → PVal} {x : Fr} (h : x.wf) : f1 g [x.enc] = some (g x) := by simp only [f1, decF_enc h]
theorem f2_at {g : Fr → Fr → PVal} {x y : Fr} (hx : x.wf) (hy : y.wf) : f2 g [x.enc, y.enc] = some (g x y) := by simp only [f2, decF_enc hx, decF_enc hy]
theorem f1_some {g : Fr → PVal} {args : List PVal} {z : PVal} (h : f1 g args = some z) : ∃ x : Fr, x.wf ∧ args = [x.enc] ∧ z = g x := by
 unfold f1 at h
 split at h
 ·split at h
  ·rename_i x hx
   cases h
   obtain ⟨rfl, w⟩ := decF_some hx
   exact ⟨x, w, rfl, rfl⟩
  ·cases h
 ·cases h
theorem f2_some {g : Fr → Fr → PVal} {args : List PVal} {z : PVal} (h : f2 g args = some z) : ∃ x y : Fr, x.wf ∧ y.wf ∧ args = [x.enc, y.enc] ∧ z = g x y := by
 unfold f2 at h
 split at h
 ·split at h
  ·rename_i x y hx hy
   cases h
   obtain ⟨rfl, wx⟩ := decF_some hx
   obtain ⟨rfl, wy⟩ := decF_some hy
   exact ⟨x, y, wx, wy, rfl, rfl⟩
  ·cases h
 ·cases h
end Go.Proofs.YtgbjjikaenlkmaaGreat

/-
 Fractions: how big answers get; the order against sums and products; what lies between.
-/
namespace Go.Proofs.YtgbjjikaenlkmaaGreat
open Go Go.Abs Go.Limbs
set_option maxRecDepth 20000
theorem Sm_mono {j k : Nat} {q : Rat} (h : Sm j q) (hjk : j ≤ k) : Sm k q := ⟨Nat.le_trans h.1 hjk, Nat.le_trans h.2 hjk⟩
theorem Sm_mk {k : Nat} {z : Int} {d : Nat} (hz : len z.natAbs ≤ k) (hd : len d ≤ k) (h0 : d ≠ 0) : Sm k (mkRat z d) := by
 have h := zOf_sign z
 rw [← h]
 unfold Sm
 rw [mk_num _ _ h0, mk_den _ _ h0, zOf_abs]
 exact ⟨Nat.le_trans (len_mono (Nat.div_le_self _ _)) hz, Nat.le_trans (len_mono (Nat.div_le_self _ _)) hd⟩
theorem len_one : len 1 = 1 := by rw [len, limbs_small (by decide) (by decide)]; rfl
end Go.Proofs.YtgbjjikaenlkmaaGreat

/-
 rat: what is one, lowest terms, the order, signs.
-/
namespace Go.Proofs.YtgbjjikaenlkmaaGreat
open Go Go.Abs Go.Limbs
variable {base : Prot}
set_option maxRecDepth 20000
attribute [local irreducible] vc
attribute [local simp] pureS touchV freezeL fuel shiftV u64 au
theorem limbs_one : limbs 1 = [1] := limbs_small (by decide) (by decide)
theorem lenL (n : Nat) : (limbs n).length = len n := rfl
theorem len_beq {n : Nat} (h : n ≠ 0) : ((len n : Int) == 0) = false := beq_false_of_ne (by have : len n ≠ 0 := fun e => h (len_eq_zero.1 e); omega)
theorem cmpI_one {n : Nat} : (cmpI n 1 == 0) = decide (n = 1) := by
 unfold cmpI
 by_cases h : n < 1
 ·rw [if_pos h]; simp; omega
 ·rw [if_neg h]
  by_cases h2 : n = 1
  ·rw [if_pos h2]; simp [h2]
  ·rw [if_neg h2]; simp [h2]
theorem sOrder_one {n : Nat} (h : len n ≤ 100000) : sOrder [.lst ((limbs n).map u64), .lst [.int .u64 1]] = some (.int .i64 (cmpI n 1)) := by
 have := sOrder_num (a := n) (b := 1) h (by rw [len_one]; omega)
 rw [limbs_one] at this
 exact this
def sOne : List PVal → Option PVal
 | [] => some (.lst [.int .u64 1])
 | _ => none
theorem sOne_nil : sOne [] = some (.lst [.int .u64 1]) := rfl
def Tqo : Tab := Tab.none.with 113 (pureS sOf)
theorem Tqo_ok : TabOk Tryz.prog base Tqo := Tab.with_ok Tab.none_ok of_ok
theorem Tqo_mu (f : FuncId) (a : List AVal) (H : Heap) : Tqo.mu f a H = none := (rfl)
theorem Tqo_fn : Tqo.fn 113 = pureS sOf := (rfl)
theorem sOf_one : sOf [.int .i64 1] = some (.lst [.int .u64 1]) := by
 have h : sOf [.int .i64 1] = some (.lst ((ofL 1).map u64)) := rfl
 rw [ofL_num (by decide) (by decide)] at h
 rw [h, show Int.natAbs 1 = 1 from rfl, limbs_one]
 rfl
theorem qone_ok : FnOk Tryz.prog base 90 (pureS sOne) := by
 refine pure_of_vc hmix Tqo_ok globNone low90 fun args z hs hf => ?_
 unfold sOne at hs
 split at hs
 case h_2 => cases hs
 cases hs
 refine ⟨by simp [lf90], ?_⟩
 have h1 := sOf_one
 simp [lf90, h1, Tqo_mu, Tqo_fn]
def sQZero : List PVal → Option PVal
 | [] => some (ofQ 0).enc
 | _ => none
theorem sQZero_nil : sQZero [] = some (ofQ 0).enc := rfl
theorem ofQ_zero : ofQ 0 = ⟨false, [], [1]⟩ := by
 unfold ofQ
 rw [Rat.zero_num, Rat.zero_den, limbs_one]
 simp [limbs_zero]
def Tq1 : Tab := Tab.none.with 90 (pureS sOne)
theorem Tq1_ok : TabOk Tryz.prog base Tq1 := Tab.with_ok Tab.none_ok qone_ok
theorem Tq1_mu (f : FuncId) (a : List AVal) (H : Heap) : Tq1.mu f a H = none := (rfl)
theorem Tq1_fn : Tq1.fn 90 = pureS sOne := (rfl)
theorem qzero_ok : FnOk Tryz.prog base 53 (pureS sQZero) := by
 refine pure_of_vc hmix Tq1_ok globNone low53 fun args z hs hf => ?_
 unfold sQZero at hs
 split at hs
 case h_2 => cases hs
 cases hs
 refine ⟨by simp [lf53], ?_⟩
 have h1 := sOne_nil
 rw [ofQ_zero]
 simp [lf53, h1, Fr.enc, fillS, Tq1_mu, Tq1_fn]
def numF (x : Fr) : PVal := iP x.s x.n
def denF (x : Fr) : PVal := iP false x.d
theorem qnum_ok : FnOk Tryz.prog base 111 (pureS (f1 numF)) := by
 refine pure_of_vc hmix Tab.none_ok globNone low111 fun args z hs hf => ?_
 obtain ⟨x, wx, rfl, rfl⟩ := f1_some hs
 refine ⟨by simp [lf111], ?_⟩
 simp [lf111, Fr.enc, numF, iP, fillS]
theorem qden_ok : FnOk Tryz.prog base 116 (pureS (f1 denF)) := by
 refine pure_of_vc hmix Tab.none_ok globNone low116 fun args z hs hf => ?_
 obtain ⟨x, wx, rfl, rfl⟩ := f1_some hs
 refine ⟨by simp [lf116], ?_⟩
 simp [lf116, Fr.enc, denF, iP, fillS]
def Tqv : Tab := (((Tab.none.with 90 (pureS sOne)).with 105 (pureS sValid)).with 106 (pureS sOrder)).with 107 (pureS sCommon)
theorem Tqv_ok : TabOk Tryz.prog base Tqv := Tab.with_ok (Tab.with_ok (Tab.with_ok (Tab.with_ok Tab.none_ok qone_ok) valid_ok) order_ok) common_ok
theorem Tqv_mu (f : FuncId) (a : List AVal) (H : Heap) : Tqv.mu f a H = none := (rfl)
theorem Tqv_fns : Tqv.fn 90 = pureS sOne ∧ Tqv.fn 105 = pureS sValid ∧ Tqv.fn 106 = pureS sOrder ∧ Tqv.fn 107 = pureS sCommon := ⟨rfl, rfl, rfl, rfl⟩
theorem qvalid_ok : FnOk Tryz.prog base 69 (pureS (f1 boolF)) := by
 refine pure_of_vc hmix Tqv_ok globNone low69 fun args z hs hf => ?_
 obtain ⟨x, wx, rfl, rfl⟩ := f1_some hs
 obtain ⟨s, n, d⟩ := x
 obtain ⟨wn, wd⟩ := wx
 simp only at wn wd
 refine ⟨by simp [lf69], ?_⟩
 have v1 := sValid_list wn
 have v2 := sValid_list wd
 have ho := sOne_nil
 simp only [Fr.enc, boolF, Fr.ok]
 cases o1 : okL n with
 | false => rw [o1] at v1; simp [lf69, v1, Tqv_mu, Tqv_fns]
 | true =>
  rw [o1] at v1
  cases o2 : okL d with
  | false => rw [o2] at v2; simp [lf69, v1, v2, Tqv_mu, Tqv_fns]
  | true =>
   rw [o2] at v2
   obtain ⟨a, rfl, ha⟩ := okL_true o1
   obtain ⟨b, rfl, hb⟩ := okL_true o2
   rw [val_limbs, val_limbs]
   by_cases b0 : b = 0
   ·subst b0
    rw [limbs_zero] at v2 ⊢
    simp only [List.map_nil] at v2 ⊢
    simp [lf69, v1, v2, Tqv_mu, Tqv_fns]
   ·have lb := len_beq b0
    have c1 := sOrder_one (n := b) (by omega)
    have c2 := sCommon_num (a := a) (b := b) (by omega) (by omega)
    have hg : len (Nat.gcd a b) ≤ 100000 := Nat.le_trans (len_mono (Nat.gcd_le_right _ (Nat.pos_of_ne_zero b0))) (by omega)
    have c3 := sOrder_one hg
    have g1 : b = 1 → Nat.gcd a b = 1 := fun e => by rw [e, Nat.gcd_one_right]
    obtain ⟨g, hgg⟩ : ∃ g, g = Nat.gcd a b := ⟨_, rfl⟩
    rw [← hgg] at c2 c3 g1 ⊢
    have e1 := cmpI_one (n := b)
    have e2 := cmpI_one (n := g)
    obtain ⟨p, hp⟩ : ∃ p, p = cmpI b 1 := ⟨_, rfl⟩
    obtain ⟨r, hr⟩ : ∃ p, p = cmpI g 1 := ⟨_, rfl⟩
    rw [← hp] at c1 e1
    rw [← hr] at c3 e2
    have e2' : (r == 0) = (g == 1) := e2
    have hb0' : decide (b ≠ 0) = true := decide_eq_true b0
    rw [hb0']
    by_cases a0 : a = 0
    ·subst a0
     rw [limbs_zero] at v1 c2 ⊢
     simp only [List.map_nil] at v1 c2 ⊢
     cases s with
     | true => simp [lf69, v1, v2, lenL, lb, Tqv_mu, Tqv_fns]
     | false =>
      by_cases hb1 : b = 1
      ·rw [decide_eq_true hb1] at e1
       have hgb : (g == 1) = true := by rw [g1 hb1]; rfl
       rw [hgb]
       simp [lf69, v1, v2, lenL, lb, ho, c1, e1, Tqv_mu, Tqv_fns]
      ·rw [decide_eq_false hb1] at e1
       simp [lf69, v1, v2, lenL, lb, ho, c1, c2, c3, e1, e2', Tqv_mu, Tqv_fns]
    ·have la := len_beq a0
     by_cases hb1 : b = 1
     ·rw [decide_eq_true hb1] at e1
      have hgb : (g == 1) = true := by rw [g1 hb1]; rfl
      rw [hgb]
      cases s <;> simp [lf69, v1, v2, lenL, la, lb, ho, c1, e1, a0, Tqv_mu, Tqv_fns]
     ·rw [decide_eq_false hb1] at e1
      cases s <;> simp [lf69, v1, v2, lenL, la, lb, ho, c1, c2, c3, e1, e2', a0, Tqv_mu, Tqv_fns]
def sLow : List PVal → Option PVal
 | [.bool s, .lst xs, .lst ys] => match decN xs, decN ys with | some a, some b => if b ≠ 0 then some (pairF (heldQ (mkRat (zOf s a) b))) else none | _, _ => none
 | _ => none
theorem sLow_num (s : Bool) {a b : Nat} (ha : len a ≤ 100000) (hb : len b ≤ 100000) (h0 : b ≠ 0) : sLow [.bool s, .lst ((limbs a).map u64), .lst ((limbs b).map u64)] = some (pairF (heldQ (mkRat (zOf s a) b))) := by
 simp only [sLow, decN_num ha, decN_num hb]
 rw [if_pos h0]
def Tlo : Tab := ((((Tab.none.with 90 (pureS sOne)).with 137 (pureS sQuot)).with 106 (pureS sOrder)).with 107 (pureS sCommon)).with 117 (pureS sClone)
theorem Tlo_ok : TabOk Tryz.prog base Tlo := Tab.with_ok (Tab.with_ok (Tab.with_ok (Tab.with_ok (Tab.with_ok Tab.none_ok qone_ok) quot_ok) order_ok) common_ok) clone_ok
theorem Tlo_mu (f : FuncId) (a : List AVal) (H : Heap) : Tlo.mu f a H = none := (rfl)
theorem Tlo_fns : Tlo.fn 90 = pureS sOne ∧ Tlo.fn 137 = pureS sQuot ∧ Tlo.fn 106 = pureS sOrder ∧ Tlo.fn 107 = pureS sCommon ∧ Tlo.fn 117 = pureS sClone := ⟨rfl, rfl, rfl, rfl, rfl⟩
theorem cmpI_ne {n : Nat} : (cmpI n 1 != 0) = !decide (n = 1) := by rw [← cmpI_one]; rfl
theorem qlow_ok : FnOk Tryz.prog base 108 (pureS sLow) := by
 refine pure_of_vc hmix Tlo_ok globNone low108 fun args z hs hf => ?_
 unfold sLow at hs
 split at hs
 case h_2 => cases hs
 rename_i s xs ys
 split at hs
 case h_2 => cases hs
 rename_i a b ha hb
 split at hs
 case isFalse => cases hs
 rename_i h0
 obtain ⟨rfl, hla⟩ := decN_some ha
 obtain ⟨rfl, hlb⟩ := decN_some hb
 cases hs
 refine ⟨by simp [lf108], ?_⟩
 rw [heldQ_mk s a h0]
 have c2 := sCommon_num hla hlb
 have hgl : len (Nat.gcd a b) ≤ 100000 := Nat.le_trans (len_mono (Nat.gcd_le_right _ (Nat.pos_of_ne_zero h0))) hlb
 have hg0 : Nat.gcd a b ≠ 0 := fun e => h0 (Nat.gcd_eq_zero_iff.1 e).2
 have c3 := sOrder_one hgl
 have e2 := cmpI_ne (n := Nat.gcd a b)
 have ho := sOne_nil
 obtain ⟨g, hg⟩ : ∃ g, g = Nat.gcd a b := ⟨_, rfl⟩
 rw [← hg] at c2 c3 e2 hgl hg0 ⊢
 have q1 := sQuot_num hla hgl hg0
 have q2 := sQuot_num hlb hgl hg0
 obtain ⟨m, hm⟩ : ∃ m, m = a / g := ⟨_, rfl⟩
 obtain ⟨k, hk⟩ : ∃ k, k = b / g := ⟨_, rfl⟩
 have hml : len m ≤ 100000 := by rw [hm]; exact Nat.le_trans (len_mono (Nat.div_le_self _ _)) hla
 have hkl : len k ≤ 100000 := by rw [hk]; exact Nat.le_trans (len_mono (Nat.div_le_self _ _)) hlb
 have m1 := sClone_num hml
 have m2 := sClone_num hkl
 rw [← hm, ← hk]
 rw [← hm] at q1
 rw [← hk] at q2
 obtain ⟨r, hr⟩ : ∃ p, p = cmpI g 1 := ⟨_, rfl⟩
 rw [← hr] at c3 e2
 by_cases hg1 : g = 1
 ·have hma : m = a := by rw [hm, hg1, Nat.div_one]
  have hkb : k = b := by rw [hk, hg1, Nat.div_one]
  rw [hma] at m1 ⊢
  rw [hkb] at m2 ⊢
  rw [decide_eq_true hg1] at e2
  by_cases h1 : len a ≤ 64
  ·have h1' : ¬ (64 : Int) < len a := by omega
   by_cases h2 : len b ≤ 64
   ·have h2' : ¬ (64 : Int) < len b := by omega
    cases s <;> simp [lf108, lenL, ho, c2, c3, e2, m1, m2, h1, h1', h2, h2', pairF, Fr.enc, fillS, Tlo_mu, Tlo_fns] <;> exact decide_eq_decide.2 Iff.rfl
   ·have h2' : (64 : Int) < len b := by omega
    simp [lf108, lenL, ho, c2, c3, e2, h1, h1', h2, h2', pairF, zF, Fr.enc, fillS, Tlo_mu, Tlo_fns]
  ·have h1' : (64 : Int) < len a := by omega
   simp [lf108, lenL, ho, c2, c3, e2, h1, h1', pairF, zF, Fr.enc, fillS, Tlo_mu, Tlo_fns]
 ·rw [decide_eq_false hg1] at e2
  by_cases h1 : len m ≤ 64
  ·have h1' : ¬ (64 : Int) < len m := by omega
   by_cases h2 : len k ≤ 64
   ·have h2' : ¬ (64 : Int) < len k := by omega
    cases s <;> simp [lf108, lenL, ho, c2, c3, e2, q1, q2, m1, m2, h1, h1', h2, h2', pairF, Fr.enc, fillS, Tlo_mu, Tlo_fns] <;> exact decide_eq_decide.2 Iff.rfl
   ·have h2' : (64 : Int) < len k := by omega
    simp [lf108, lenL, ho, c2, c3, e2, q1, q2, h1, h1', h2, h2', pairF, zF, Fr.enc, fillS, Tlo_mu, Tlo_fns]
  ·have h1' : (64 : Int) < len m := by omega
   simp [lf108, lenL, ho, c2, c3, e2, q1, q2, h1, h1', pairF, zF, Fr.enc, fillS, Tlo_mu, Tlo_fns]
end Go.Proofs.YtgbjjikaenlkmaaGreat

/-
 rat: the order, signs, sums, products, quotients.
-/
namespace Go.Proofs.YtgbjjikaenlkmaaGreat
open Go Go.Abs Go.Limbs
variable {base : Prot}
set_option maxRecDepth 20000
attribute [local irreducible] vc
attribute [local simp] pureS touchV freezeL fuel shiftV u64 au
theorem vF {x : Fr} (h : x.wf) : f1 boolF [x.enc] = some (.bool x.ok) := f1_at h
theorem numF_ofQ (q : Rat) : numF (ofQ q) = iN q.num := rfl
theorem iN_nat (d : Nat) : iN (d : Int) = iP false (limbs d) := by
 have h : decide ((d : Int) < 0) = false := decide_eq_false (by omega)
 unfold iN
 rw [h, Int.natAbs_natCast]
theorem denF_ofQ (q : Rat) : denF (ofQ q) = iN (q.den : Int) := by rw [iN_nat]; rfl
theorem nF (q : Rat) : f1 numF [(ofQ q).enc] = some (iN q.num) := by rw [f1_at (wf_ofQ q), numF_ofQ]
theorem dF (q : Rat) : f1 denF [(ofQ q).enc] = some (iN (q.den : Int)) := by rw [f1_at (wf_ofQ q), denF_ofQ]
theorem Sm_z {k : Nat} {q : Rat} (h : Sm k q) : zl q.num ≤ k := h.1
theorem Sm_d {k : Nat} {q : Rat} (h : Sm k q) : zl (q.den : Int) ≤ k := by unfold zl; rw [Int.natAbs_natCast]; exact h.2
theorem zl_mul {z w : Int} : zl (z * w) ≤ zl z + zl w := by unfold zl; rw [Int.natAbs_mul]; exact len_mul _ _
theorem zl_add {z w : Int} : zl (z + w) ≤ max (zl z) (zl w) + 1 := by
 unfold zl
 exact Nat.le_trans (len_mono (Int.natAbs_add_le z w)) (len_add _ _)
theorem enc_ofQ (q : Rat) : (ofQ q).enc = .agg [.bool (decide (q.num < 0)), .lst ((limbs q.num.natAbs).map u64), .lst ((limbs q.den).map u64)] := rfl
theorem cmpQ_sgn (p : Rat) : cmpQ p 0 = sgnZ p.num := by
 unfold cmpQ cmpZ sgnZ
 simp
def Tqa : Tab := ((((((((Tab.none.with 69 (pureS (f1 boolF))).with 111 (pureS (f1 numF))).with 116 (pureS (f1 denF))).with 115 (pureS sWTimes)).with 114 (pureS sWPlus)).with 110 (pureS sISign)).with 109 (pureS sTimes)).with 108 (pureS sLow)).with 117 (pureS sClone)
theorem Tqa_ok : TabOk Tryz.prog base Tqa := Tab.with_ok (Tab.with_ok (Tab.with_ok (Tab.with_ok (Tab.with_ok (Tab.with_ok (Tab.with_ok (Tab.with_ok (Tab.with_ok Tab.none_ok qvalid_ok) qnum_ok) qden_ok) itimes_ok) iplus_ok) isign_ok) times_ok) qlow_ok) clone_ok
theorem Tqa_mu (f : FuncId) (a : List AVal) (H : Heap) : Tqa.mu f a H = none := (rfl)
theorem Tqa_fns : Tqa.fn 69 = pureS (f1 boolF) ∧ Tqa.fn 111 = pureS (f1 numF) ∧ Tqa.fn 116 = pureS (f1 denF) ∧ Tqa.fn 115 = pureS sWTimes ∧ Tqa.fn 114 = pureS sWPlus ∧ Tqa.fn 110 = pureS sISign ∧ Tqa.fn 109 = pureS sTimes ∧ Tqa.fn 108 = pureS sLow ∧ Tqa.fn 117 = pureS sClone := ⟨rfl, rfl, rfl, rfl, rfl, rfl, rfl, rfl, rfl⟩
def signP (x : Fr) : PVal := .int .i64 (signF x)
def negP (x : Fr) : PVal := (negF x).enc
def addP (x y : Fr) : PVal := pairF (addF x y)
def mulP (x y : Fr) : PVal := pairF (mulF x y)
def quoP (x y : Fr) : PVal := pairF (quoF x y)
theorem qsign_ok : FnOk Tryz.prog base 71 (pureS (f1 signP)) := by
 refine pure_of_vc hmix Tqa_ok globNone low71 fun args z hs hf => ?_
 obtain ⟨x, wx, rfl, rfl⟩ := f1_some hs
 refine ⟨by simp [lf71], ?_⟩
 have v1 := vF wx
 cases ox : x.ok with
 | false => rw [ox] at v1; simp only [Fr.enc] at v1 ⊢; simp [lf71, v1, signP, signF, ox, Tqa_mu, Tqa_fns]
 | true =>
  rw [ox] at v1
  obtain ⟨p, hp, rfl⟩ := Fr.ok_of ox
  have e : signP (ofQ p) = .int .i64 (sgnZ p.num) := by unfold signP; rw [signF_num hp, cmpQ_sgn]
  rw [e]
  have n1 := nF p
  have s1 : sISign [iN p.num] = some (.int .i64 (sgnZ p.num)) := by
   have := sISign_list (s := decide (p.num < 0)) (wf_limbs p.num.natAbs)
   rw [okI_num (Sm_z hp), zL_num] at this
   exact this
  simp only [Fr.enc] at v1 n1 ⊢
  simp [lf71, v1, n1, s1, Tqa_mu, Tqa_fns]
theorem qneg_ok : FnOk Tryz.prog base 118 (pureS (f1 negP)) := by
 refine pure_of_vc hmix Tqa_ok globNone low118 fun args z hs hf => ?_
 obtain ⟨x, wx, rfl, rfl⟩ := f1_some hs
 refine ⟨by simp [lf118], ?_⟩
 have v1 := vF wx
 cases ox : x.ok with
 | false => rw [ox] at v1; simp only [Fr.enc] at v1 ⊢; simp [lf118, v1, negP, negF, ox, zF, Fr.enc, fillS, Tqa_mu, Tqa_fns]
 | true =>
  rw [ox] at v1
  obtain ⟨p, hp, rfl⟩ := Fr.ok_of ox
  have e : negP (ofQ p) = (ofQ (-p)).enc := by unfold negP; rw [negF_num hp]
  rw [e, ofQ_neg]
  have c1 := sClone_num (a := p.num.natAbs) (by have := hp.1; omega)
  have c2 := sClone_num (a := p.den) (by have := hp.2; omega)
  obtain ⟨s, hs⟩ : ∃ s, s = decide (p.num < 0) := ⟨_, rfl⟩
  rw [enc_ofQ, ← hs] at v1 ⊢
  simp [lf118, v1, vc_regionW, Fr.enc, fillS, Tqa_mu, Tqa_fns]
  refine ⟨[], ?_⟩
  cases s <;> simp [c1, c2, lenL, Tqa_mu, Tqa_fns] <;> exact decide_eq_decide.2 Iff.rfl
theorem qadd_ok : FnOk Tryz.prog base 74 (pureS (f2 addP)) := by
 refine pure_of_vc hmix Tqa_ok globNone low74 fun args z hs hf => ?_
 obtain ⟨x, y, wx, wy, rfl, rfl⟩ := f2_some hs
 refine ⟨by simp [lf74], ?_⟩
 have v1 := vF wx
 have v2 := vF wy
 cases ox : x.ok with
 | false => rw [ox] at v1; simp only [Fr.enc] at v1 ⊢; simp [lf74, v1, addP, addF, ox, pairF, zF, Fr.enc, fillS, Tqa_mu, Tqa_fns]
 | true =>
  rw [ox] at v1
  cases oy : y.ok with
  | false => rw [oy] at v2; simp only [Fr.enc] at v1 v2 ⊢; simp [lf74, v1, v2, addP, addF, ox, oy, pairF, zF, Fr.enc, fillS, Tqa_mu, Tqa_fns]
  | true =>
   rw [oy] at v2
   obtain ⟨p, hp, rfl⟩ := Fr.ok_of ox
   obtain ⟨q, hq, rfl⟩ := Fr.ok_of oy
   have e : addP (ofQ p) (ofQ q) = pairF (heldQ (p + q)) := by unfold addP; rw [addF_num hp hq]
   rw [e]
   have zp := Sm_z hp
   have zq := Sm_z hq
   have dp := Sm_d hp
   have dq := Sm_d hq
   have t1 := sWTimes_num (z := p.num) (w := q.den) (by omega) (by omega)
   have t2 := sWTimes_num (z := q.num) (w := p.den) (by omega) (by omega)
   have l1 := zl_mul (z := p.num) (w := q.den)
   have l2 := zl_mul (z := q.num) (w := p.den)
   have o := sWPlus_num (z := p.num * q.den) (w := q.num * p.den) (by omega) (by omega)
   have n1 := nF p
   have n2 := nF q
   have d1 := dF p
   have d2 := dF q
   have l3 := zl_add (z := p.num * q.den) (w := q.num * p.den)
   have dd : sTimes [.lst ((ofQ p).d.map u64), .lst ((ofQ q).d.map u64)] = some (.lst ((limbs (p.den * q.den)).map u64)) := sTimes_num (a := p.den) (b := q.den) (by have := hp.2; omega) (by have := hq.2; omega)
   have l4 := len_mul p.den q.den
   have hpd := hp.2
   have hqd := hq.2
   have lw := sLow_num (decide (p.num * q.den + q.num * p.den < 0)) (a := (p.num * q.den + q.num * p.den).natAbs) (b := p.den * q.den) (by unfold zl at *; omega) (by omega) (Nat.mul_ne_zero p.den_nz q.den_nz)
   rw [zOf_sign, add_mk] at lw
   obtain ⟨w, hw⟩ : ∃ w, w = p.num * q.den + q.num * p.den := ⟨_, rfl⟩
   rw [← hw] at o lw
   obtain ⟨R, hR⟩ : ∃ R, R = heldQ (p + q) := ⟨_, rfl⟩
   rw [← hR] at lw ⊢
   simp only [iN_case w, pairF] at o lw ⊢
   simp only [Fr.enc] at v1 v2 n1 n2 d1 d2 lw ⊢
   simp [lf74, v1, v2, vc_regionW, fillS, Tqa_mu, Tqa_fns]
   refine ⟨[], ?_⟩
   simp [n1, n2, d1, d2, t1, t2, o, vc_regionW, fillS, Tqa_mu, Tqa_fns]
   refine ⟨fun k hk => by match k, hk with | 0, _ => rfl | 1, _ => rfl | 2, _ => rfl, [], ?_⟩
   simp [dd, lw, fillS, Tqa_mu, Tqa_fns]
end Go.Proofs.YtgbjjikaenlkmaaGreat

/-
 rat: differences, products, quotients.
-/
namespace Go.Proofs.YtgbjjikaenlkmaaGreat
open Go Go.Abs Go.Limbs
variable {base : Prot}
set_option maxRecDepth 20000
attribute [local irreducible] vc
attribute [local simp] pureS touchV freezeL fuel shiftV u64 au
theorem qmul_ok : FnOk Tryz.prog base 70 (pureS (f2 mulP)) := by
 refine pure_of_vc hmix Tqa_ok globNone low70 fun args z hs hf => ?_
 obtain ⟨x, y, wx, wy, rfl, rfl⟩ := f2_some hs
 refine ⟨by simp [lf70], ?_⟩
 have v1 := vF wx
 have v2 := vF wy
 cases ox : x.ok with
 | false => rw [ox] at v1; simp only [Fr.enc] at v1 ⊢; simp [lf70, v1, mulP, mulF, ox, pairF, zF, Fr.enc, fillS, Tqa_mu, Tqa_fns]
 | true =>
  rw [ox] at v1
  cases oy : y.ok with
  | false => rw [oy] at v2; simp only [Fr.enc] at v1 v2 ⊢; simp [lf70, v1, v2, mulP, mulF, ox, oy, pairF, zF, Fr.enc, fillS, Tqa_mu, Tqa_fns]
  | true =>
   rw [oy] at v2
   obtain ⟨p, hp, rfl⟩ := Fr.ok_of ox
   obtain ⟨q, hq, rfl⟩ := Fr.ok_of oy
   have e : mulP (ofQ p) (ofQ q) = pairF (heldQ (p * q)) := by unfold mulP; rw [mulF_num hp hq]
   rw [e]
   obtain ⟨a1, a2⟩ := hp
   obtain ⟨b1, b2⟩ := hq
   have t1 := sTimes_num (a := p.num.natAbs) (b := q.num.natAbs) (by omega) (by omega)
   have t2 := sTimes_num (a := p.den) (b := q.den) (by omega) (by omega)
   have l1 := len_mul p.num.natAbs q.num.natAbs
   have l2 := len_mul p.den q.den
   have lw := sLow_num (decide (p.num < 0) != decide (q.num < 0)) (a := p.num.natAbs * q.num.natAbs) (b := p.den * q.den) (by omega) (by omega) (Nat.mul_ne_zero p.den_nz q.den_nz)
   rw [zOf_mul, mul_mk] at lw
   obtain ⟨R, hR⟩ : ∃ R, R = heldQ (p * q) := ⟨_, rfl⟩
   rw [← hR] at lw ⊢
   obtain ⟨s, hs⟩ : ∃ s, s = decide (p.num < 0) := ⟨_, rfl⟩
   obtain ⟨t, ht⟩ : ∃ s, s = decide (q.num < 0) := ⟨_, rfl⟩
   simp only [enc_ofQ, pairF, ← hs, ← ht] at v1 v2 lw ⊢
   simp [lf70, v1, v2, vc_regionW, fillS, Fr.enc, Tqa_mu, Tqa_fns]
   refine ⟨[], ?_⟩
   have hb : (s != t) = !(s == t) := by cases s <;> cases t <;> rfl
   simp [t1, t2, lw, ← hb, fillS, Fr.enc, Tqa_mu, Tqa_fns]
theorem qquo_ok : FnOk Tryz.prog base 79 (pureS (f2 quoP)) := by
 refine pure_of_vc hmix Tqa_ok globNone low79 fun args z hs hf => ?_
 obtain ⟨x, y, wx, wy, rfl, rfl⟩ := f2_some hs
 refine ⟨by simp [lf79], ?_⟩
 have v1 := vF wx
 have v2 := vF wy
 cases ox : x.ok with
 | false => rw [ox] at v1; simp only [Fr.enc] at v1 ⊢; simp [lf79, v1, quoP, quoF, ox, pairF, zF, Fr.enc, fillS, Tqa_mu, Tqa_fns]
 | true =>
  rw [ox] at v1
  cases oy : y.ok with
  | false => rw [oy] at v2; simp only [Fr.enc] at v1 v2 ⊢; simp [lf79, v1, v2, quoP, quoF, ox, oy, pairF, zF, Fr.enc, fillS, Tqa_mu, Tqa_fns]
  | true =>
   rw [oy] at v2
   obtain ⟨p, hp, rfl⟩ := Fr.ok_of ox
   obtain ⟨q, hq, rfl⟩ := Fr.ok_of oy
   by_cases h0 : q = 0
   ·subst h0
    have e : quoP (ofQ p) (ofQ 0) = pairF (zF, 1) := by unfold quoP quoF; rw [q_ofQ, q_ofQ]; simp
    rw [e]
    rw [ofQ_zero] at v2 ⊢
    simp only [Fr.enc, List.map_nil, List.map_cons, u64] at v1 v2 ⊢
    have v2' : f1 boolF [.agg [.bool false, .lst [], .lst [.int .u64 1]]] = some (.bool true) := v2
    simp [lf79, v1, v2', pairF, zF, Fr.enc, fillS, Tqa_mu, Tqa_fns]
   ·have e : quoP (ofQ p) (ofQ q) = pairF (heldQ (p / q)) := by unfold quoP; rw [quoF_num hp hq h0]
    rw [e]
    have hn : q.num.natAbs ≠ 0 := fun e => h0 (Rat.num_eq_zero.1 (by omega))
    have hl := len_beq hn
    obtain ⟨a1, a2⟩ := hp
    obtain ⟨b1, b2⟩ := hq
    have t1 := sTimes_num (a := p.num.natAbs) (b := q.den) (by omega) (by omega)
    have t2 := sTimes_num (a := p.den) (b := q.num.natAbs) (by omega) (by omega)
    have l1 := len_mul p.num.natAbs q.den
    have l2 := len_mul p.den q.num.natAbs
    have lw := sLow_num (decide (p.num < 0) != decide (q.num < 0)) (a := p.num.natAbs * q.den) (b := p.den * q.num.natAbs) (by omega) (by omega) (Nat.mul_ne_zero p.den_nz hn)
    rw [quo_mk p h0] at lw
    obtain ⟨R, hR⟩ : ∃ R, R = heldQ (p / q) := ⟨_, rfl⟩
    rw [← hR] at lw ⊢
    obtain ⟨s, hs⟩ : ∃ s, s = decide (p.num < 0) := ⟨_, rfl⟩
    obtain ⟨t, ht⟩ : ∃ s, s = decide (q.num < 0) := ⟨_, rfl⟩
    simp only [enc_ofQ, pairF, ← hs, ← ht] at v1 v2 lw ⊢
    have hb : (s != t) = !(s == t) := by cases s <;> cases t <;> rfl
    simp [lf79, v1, v2, lenL, hl, vc_regionW, fillS, Fr.enc, Tqa_mu, Tqa_fns]
    refine ⟨[], ?_⟩
    simp [t1, t2, lw, ← hb, fillS, Fr.enc, Tqa_mu, Tqa_fns]
end Go.Proofs.YtgbjjikaenlkmaaGreat

/-
 rat: fractions of whole numbers and of ints; the whole numbers below and above; a number between two.
-/
namespace Go.Proofs.YtgbjjikaenlkmaaGreat
open Go Go.Abs Go.Limbs
variable {base : Prot}
set_option maxRecDepth 20000
attribute [local irreducible] vc
attribute [local simp] pureS touchV freezeL fuel shiftV u64 au
theorem mk_divInt (z w : Int) : mkRat (zOf (decide (z < 0) != decide (w < 0)) z.natAbs) w.natAbs = Rat.divInt z w := by
 by_cases hw : w < 0
 ·obtain ⟨n, rfl⟩ : ∃ n : Nat, w = -(n : Int) := ⟨w.natAbs, by omega⟩
  rw [Rat.divInt_neg', Rat.divInt_ofNat, Int.natAbs_neg, Int.natAbs_natCast]
  congr 1
  by_cases hz : z < 0
  ·simp [zOf, hz, hw]; omega
  ·simp [zOf, hz, hw]; omega
 ·obtain ⟨n, rfl⟩ : ∃ n : Nat, w = (n : Int) := ⟨w.natAbs, by omega⟩
  rw [Rat.divInt_ofNat, Int.natAbs_natCast]
  congr 1
  by_cases hz : z < 0
  ·simp [zOf, hz]; omega
  ·simp [zOf, hz]; omega
def newF (s : Bool) (a : List Nat) (t : Bool) (b : List Nat) : Fr × Nat := if okI s a && okI t b && decide (b ≠ []) then heldQ (Rat.divInt (zL s a) (zL t b)) else (zF, 1)
def sNew : List PVal → Option PVal
 | [.agg [.bool s, .lst xs], .agg [.bool t, .lst ys]] => match decU xs, decU ys with | some a, some b => some (pairF (newF s a t b)) | _, _ => none
 | _ => none
theorem sNew_list {s t : Bool} {a b : List Nat} (ha : Wf a) (hb : Wf b) : sNew [.agg [.bool s, .lst (a.map u64)], .agg [.bool t, .lst (b.map u64)]] = some (pairF (newF s a t b)) := by simp only [sNew, decU_map ha, decU_map hb]
theorem sNew_num {z w : Int} (hz : zl z ≤ 64) (hw : zl w ≤ 64) (h0 : w ≠ 0) : sNew [iN z, iN w] = some (pairF (heldQ (Rat.divInt z w))) := by
 have h := sNew_list (s := decide (z < 0)) (t := decide (w < 0)) (wf_limbs z.natAbs) (wf_limbs w.natAbs)
 have hb : limbs w.natAbs ≠ [] := fun e => h0 (by have := limbs_eq_nil.1 e; omega)
 unfold newF at h
 rw [okI_num hz, okI_num hw, zL_num, zL_num, decide_eq_true hb] at h
 exact h
def Tqn : Tab := (Tab.none.with 112 (pureS sIV)).with 108 (pureS sLow)
theorem Tqn_ok : TabOk Tryz.prog base Tqn := Tab.with_ok (Tab.with_ok Tab.none_ok ivalid_ok) qlow_ok
theorem Tqn_mu (f : FuncId) (a : List AVal) (H : Heap) : Tqn.mu f a H = none := (rfl)
theorem Tqn_fns : Tqn.fn 112 = pureS sIV ∧ Tqn.fn 108 = pureS sLow := ⟨rfl, rfl⟩
theorem qnew_ok : FnOk Tryz.prog base 72 (pureS sNew) := by
 refine pure_of_vc hmix Tqn_ok globNone low72 fun args z hs hf => ?_
 unfold sNew at hs
 split at hs
 case h_2 => cases hs
 rename_i s xs t ys
 split at hs
 case h_2 => cases hs
 rename_i a b ha hb
 obtain ⟨rfl, wa⟩ := decU_some ha
 obtain ⟨rfl, wb⟩ := decU_some hb
 cases hs
 refine ⟨by simp [lf72], ?_⟩
 have va := sIV_list (s := s) wa
 have vb := sIV_list (s := t) wb
 unfold newF
 cases oa : okI s a with
 | false => rw [oa] at va; simp [lf72, va, pairF, zF, Fr.enc, fillS, Tqn_mu, Tqn_fns]
 | true =>
  rw [oa] at va
  cases ob : okI t b with
  | false => rw [ob] at vb; simp [lf72, va, vb, pairF, zF, Fr.enc, fillS, Tqn_mu, Tqn_fns]
  | true =>
   rw [ob] at vb
   by_cases hb0 : b = []
   ·subst hb0
    simp only [List.map_nil] at vb
    simp [lf72, va, vb, pairF, zF, Fr.enc, fillS, Tqn_mu, Tqn_fns]
   ·obtain ⟨z, lz, rfl, rfl⟩ := okI_of oa
    obtain ⟨w, lw, rfl, rfl⟩ := okI_of ob
    rw [zL_num, zL_num]
    have hw0 : w.natAbs ≠ 0 := fun e => hb0 (by rw [e, limbs_zero])
    have hl := len_beq hw0
    unfold zl at lz lw
    have L := sLow_num (decide (z < 0) != decide (w < 0)) (a := z.natAbs) (b := w.natAbs) (by omega) (by omega) hw0
    rw [mk_divInt] at L
    obtain ⟨R, hR⟩ : ∃ R, R = heldQ (Rat.divInt z w) := ⟨_, rfl⟩
    rw [← hR] at L ⊢
    obtain ⟨s, hs⟩ : ∃ s, s = decide (z < 0) := ⟨_, rfl⟩
    obtain ⟨t, ht⟩ : ∃ s, s = decide (w < 0) := ⟨_, rfl⟩
    rw [← hs] at va L ⊢
    rw [← ht] at vb L ⊢
    have hb : (s != t) = !(s == t) := by cases s <;> cases t <;> rfl
    simp only [pairF, Fr.enc] at L ⊢
    simp [lf72, va, vb, lenL, hl, hb0, L, ← hb, Tqn_mu, Tqn_fns]
theorem zl_int {n : Int} (h1 : -9223372036854775808 ≤ n) (h2 : n < 9223372036854775808) : zl n ≤ 1 := by
 unfold zl
 exact len_le (by rw [Nat.pow_one, B_lit]; omega)
theorem Sm_divInt {k : Nat} {z w : Int} (hz : zl z ≤ k) (hw : zl w ≤ k) (hk : 1 ≤ k) : Sm k (Rat.divInt z w) := by
 by_cases h0 : w = 0
 ·subst h0
  rw [Rat.divInt_zero]
  refine ⟨?_, ?_⟩
  ·rw [Rat.zero_num]
   show len 0 ≤ k
   rw [len_zero]; omega
  ·rw [Rat.zero_den, len_one]; exact hk
 ·rw [← mk_divInt]
  exact Sm_mk (by rw [zOf_abs]; exact hz) hw (by omega)
def sQOf : List PVal → Option PVal
 | [.int .i64 n, .int .i64 d] => if (-9223372036854775808 ≤ n ∧ n < 9223372036854775808) ∧ (-9223372036854775808 ≤ d ∧ d < 9223372036854775808) then some (ofQ (Rat.divInt n d)).enc else none
 | _ => none
theorem sQOf_at {n d : Int} (h1 : -9223372036854775808 ≤ n ∧ n < 9223372036854775808) (h2 : -9223372036854775808 ≤ d ∧ d < 9223372036854775808) : sQOf [.int .i64 n, .int .i64 d] = some (ofQ (Rat.divInt n d)).enc := if_pos ⟨h1, h2⟩
def Tqi : Tab := ((Tab.none.with 73 (pureS sIOf)).with 72 (pureS sNew)).with 53 (pureS sQZero)
theorem Tqi_ok : TabOk Tryz.prog base Tqi := Tab.with_ok (Tab.with_ok (Tab.with_ok Tab.none_ok iof_ok) qnew_ok) qzero_ok
theorem Tqi_mu (f : FuncId) (a : List AVal) (H : Heap) : Tqi.mu f a H = none := (rfl)
theorem Tqi_fns : Tqi.fn 73 = pureS sIOf ∧ Tqi.fn 72 = pureS sNew ∧ Tqi.fn 53 = pureS sQZero := ⟨rfl, rfl, rfl⟩
theorem qof_ok : FnOk Tryz.prog base 43 (pureS sQOf) := by
 refine pure_of_vc hmix Tqi_ok globNone low43 fun args z hs hf => ?_
 unfold sQOf at hs
 split at hs
 case h_2 => cases hs
 rename_i n d
 split at hs
 case isFalse => cases hs
 rename_i hc
 obtain ⟨⟨n1, n2⟩, d1, d2⟩ := hc
 cases hs
 refine ⟨by simp [lf43], ?_⟩
 by_cases h0 : d = 0
 ·subst h0
  have h1 := sQZero_nil
  rw [Rat.divInt_zero]
  simp only [Fr.enc] at h1 ⊢
  simp [lf43, h1, Tqi_mu, Tqi_fns]
 ·have hb : (d == 0) = false := beq_false_of_ne h0
  have o1 := sIOf_at n1 n2
  have o2 := sIOf_at d1 d2
  have z1 := zl_int n1 n2
  have z2 := zl_int d1 d2
  have N := sNew_num (z := n) (w := d) (by omega) (by omega) h0
  rw [heldQ_ok (Sm_divInt (k := 64) (by omega) (by omega) (by omega))] at N
  simp only [pairF, Fr.enc] at N ⊢
  simp [lf43, h0, hb, o1, o2, N, Tqi_mu, Tqi_fns]
end Go.Proofs.YtgbjjikaenlkmaaGreat
