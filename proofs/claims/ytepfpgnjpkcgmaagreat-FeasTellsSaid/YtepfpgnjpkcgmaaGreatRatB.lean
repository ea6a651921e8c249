/-
  Fractions as pure values: lowest terms, sums, products, quotients, the order, sizes. No conditions beyond the lemmas' own hypotheses.
-/
import Derived.Test.YtepfpgnjpkcgmaaGreatWholeIB
set_option linter.unusedSimpArgs false
set_option linter.unnecessarySimpa false
set_option linter.unusedVariables false
set_option linter.constructorNameAsVariable false

/-
 Fractions as pure values: what is one, lowest terms, sums, products, quotients, the order.
-/
namespace Go.Proofs.YtepfpgnjpkcgmaaGreat
open Go Go.Abs Go.Limbs
set_option maxRecDepth 20000
structure Fr where
 s : Bool
 n : List Nat
 d : List Nat
def Fr.wf (x : Fr) : Prop := Wf x.n ∧ Wf x.d
def Fr.enc (x : Fr) : PVal := .agg [.bool x.s, .lst (x.n.map u64), .lst (x.d.map u64)]
def decF : PVal → Option Fr
 | .agg [.bool s, .lst xs, .lst ys] => match decU xs, decU ys with | some l, some m => some ⟨s, l, m⟩ | _, _ => none
 | _ => none
theorem decF_enc {x : Fr} (h : x.wf) : decF x.enc = some x := by simp only [decF, Fr.enc, decU_map h.1, decU_map h.2]
theorem decF_some {v : PVal} {x : Fr} (h : decF v = some x) : v = x.enc ∧ x.wf := by
 unfold decF at h
 split at h
 ·rename_i s xs ys
  split at h
  ·rename_i l m hl hm
   cases h
   obtain ⟨rfl, wl⟩ := decU_some hl
   obtain ⟨rfl, wm⟩ := decU_some hm
   exact ⟨rfl, wl, wm⟩
  ·cases h
 ·cases h
def Fr.ok (x : Fr) : Bool := okL x.n && okL x.d && decide (val x.d ≠ 0) && (!x.s || decide (val x.n ≠ 0)) && (Nat.gcd (val x.n) (val x.d) == 1)
def Fr.q (x : Fr) : Rat := mkRat (zOf x.s (val x.n)) (val x.d)
def ofQ (q : Rat) : Fr := ⟨decide (q.num < 0), limbs q.num.natAbs, limbs q.den⟩
def zF : Fr := ⟨false, [], []⟩
def Sm (k : Nat) (q : Rat) : Prop := len q.num.natAbs ≤ k ∧ len q.den ≤ k
instance (k : Nat) (q : Rat) : Decidable (Sm k q) := inferInstanceAs (Decidable (_ ∧ _))
theorem wf_ofQ (q : Rat) : (ofQ q).wf := ⟨wf_limbs _, wf_limbs _⟩
theorem wf_zF : zF.wf := ⟨Wf.nil, Wf.nil⟩
theorem q_ofQ (q : Rat) : (ofQ q).q = q := by
 unfold Fr.q ofQ
 simp only [val_limbs, zOf_sign, Rat.mkRat_self]
theorem ofQ_inj {p q : Rat} (h : ofQ p = ofQ q) : p = q := by rw [← q_ofQ p, h, q_ofQ]
theorem sign_zOf {s : Bool} {a : Nat} (h : s = true → a ≠ 0) : s = decide (zOf s a < 0) := by
 cases s with
 | false => simp [zOf]
 | true => have := h rfl; simp [zOf]; omega
theorem Fr.ok_of {x : Fr} (h : x.ok = true) : ∃ q : Rat, Sm 64 q ∧ x = ofQ q := by
 obtain ⟨s, n, d⟩ := x
 unfold Fr.ok at h
 simp only [Bool.and_eq_true, Bool.or_eq_true, Bool.not_eq_true', decide_eq_true_eq, beq_iff_eq] at h
 obtain ⟨⟨⟨⟨h1, h2⟩, h3⟩, h4⟩, h5⟩ := h
 obtain ⟨a, rfl, ha⟩ := okL_true h1
 obtain ⟨b, rfl, hb⟩ := okL_true h2
 rw [val_limbs] at h3 h4
 rw [val_limbs, val_limbs] at h5
 have hs : s = true → a ≠ 0 := fun e => by
  rcases h4 with h | h
  ·rw [e] at h; cases h
  ·exact h
 refine ⟨⟨zOf s a, b, h3, by rw [zOf_abs]; exact h5⟩, ⟨by show len (zOf s a).natAbs ≤ 64; rw [zOf_abs]; exact ha, hb⟩, ?_⟩
 unfold ofQ
 simp only [zOf_abs]
 rw [← sign_zOf hs]
theorem ok_ofQ {q : Rat} (h : Sm 64 q) : (ofQ q).ok = true := by
 unfold Fr.ok ofQ
 simp only [val_limbs, okL_limbs h.1, okL_limbs h.2, Bool.true_and, Bool.and_true, Bool.and_eq_true, Bool.or_eq_true, Bool.not_eq_true', decide_eq_true_eq, decide_eq_false_iff_not, beq_iff_eq]
 refine ⟨⟨q.den_nz, ?_⟩, q.reduced⟩
 by_cases hn : q.num < 0
 ·exact .inr (by omega)
 ·exact .inl hn
theorem mk_num (s : Bool) (a : Nat) {b : Nat} (hb : b ≠ 0) : (mkRat (zOf s a) b).num = zOf s (a / Nat.gcd a b) := by
 rw [Rat.num_mkRat, if_neg hb, zOf_abs, Nat.gcd_comm]
 have hd : ((Nat.gcd a b : Nat) : Int) ∣ (a : Int) := Int.natCast_dvd_natCast.2 (Nat.gcd_dvd_left a b)
 cases s with
 | false => simp [zOf]
 | true =>
  simp only [zOf, if_true]
  rw [Int.neg_ediv_of_dvd hd, Int.natCast_ediv]
theorem mk_den (s : Bool) (a : Nat) {b : Nat} (hb : b ≠ 0) : (mkRat (zOf s a) b).den = b / Nat.gcd a b := by
 rw [Rat.den_mkRat, if_neg hb, zOf_abs, Nat.gcd_comm]
theorem ofQ_mk (s : Bool) (a : Nat) {b : Nat} (hb : b ≠ 0) : ofQ (mkRat (zOf s a) b) = ⟨s && decide (0 < (limbs (a / Nat.gcd a b)).length), limbs (a / Nat.gcd a b), limbs (b / Nat.gcd a b)⟩ := by
 unfold ofQ
 rw [mk_num s a hb, mk_den s a hb, zOf_abs]
 congr 1
 obtain ⟨m, hm⟩ : ∃ m, m = a / Nat.gcd a b := ⟨_, rfl⟩
 rw [← hm]
 by_cases h : m = 0
 ·subst h
  cases s <;> simp [zOf, limbs_zero]
 ·have hl : 0 < (limbs m).length := by
   have : (limbs m).length ≠ 0 := fun e => h (len_eq_zero.1 e)
   omega
  rw [decide_eq_true hl, Bool.and_true, ← sign_zOf fun _ => h]
def heldQ (q : Rat) : Fr × Nat := if Sm 64 q then (ofQ q, 0) else (zF, 4)
theorem heldQ_ok {q : Rat} (h : Sm 64 q) : heldQ q = (ofQ q, 0) := if_pos h
theorem wf_heldQ (q : Rat) : (heldQ q).1.wf := by
 unfold heldQ
 split
 ·exact wf_ofQ q
 ·exact wf_zF
theorem heldQ_mk (s : Bool) (a : Nat) {b : Nat} (hb : b ≠ 0) : heldQ (mkRat (zOf s a) b) = if len (a / Nat.gcd a b) ≤ 64 ∧ len (b / Nat.gcd a b) ≤ 64 then (⟨s && decide (0 < (limbs (a / Nat.gcd a b)).length), limbs (a / Nat.gcd a b), limbs (b / Nat.gcd a b)⟩, 0) else (zF, 4) := by
 have e : Sm 64 (mkRat (zOf s a) b) ↔ len (a / Nat.gcd a b) ≤ 64 ∧ len (b / Nat.gcd a b) ≤ 64 := by
  unfold Sm
  rw [mk_num s a hb, mk_den s a hb, zOf_abs]
 unfold heldQ
 by_cases h : Sm 64 (mkRat (zOf s a) b)
 ·rw [if_pos h, if_pos (e.1 h), ofQ_mk s a hb]
 ·rw [if_neg h, if_neg fun hh => h (e.2 hh)]
theorem add_mk (p q : Rat) : mkRat (p.num * q.den + q.num * p.den) (p.den * q.den) = p + q := by
 have := Rat.mkRat_add_mkRat p.num q.num p.den_nz q.den_nz
 rw [Rat.mkRat_self, Rat.mkRat_self] at this
 exact this.symm
theorem mul_mk (p q : Rat) : mkRat (p.num * q.num) (p.den * q.den) = p * q := by
 have := Rat.mkRat_mul_mkRat p.num q.num p.den q.den
 rw [Rat.mkRat_self, Rat.mkRat_self] at this
 exact this.symm
theorem div_of_mul {x p q : Rat} (hq : q ≠ 0) (h : x * q = p) : x = p / q := by
 rw [← h, Rat.div_def, Rat.mul_assoc, Rat.mul_inv_cancel q hq, Rat.mul_one]
theorem quo_mk (p : Rat) {q : Rat} (hq : q ≠ 0) : mkRat (zOf (decide (p.num < 0) != decide (q.num < 0)) (p.num.natAbs * q.den)) (p.den * q.num.natAbs) = p / q := by
 have hn : q.num ≠ 0 := fun e => hq (Rat.num_eq_zero.1 e)
 refine div_of_mul hq ?_
 have h := Rat.mkRat_mul_mkRat (zOf (decide (p.num < 0) != decide (q.num < 0)) (p.num.natAbs * q.den)) q.num (p.den * q.num.natAbs) q.den
 rw [Rat.mkRat_self] at h
 rw [h]
 conv => rhs; rw [← Rat.mkRat_self p]
 have hD : p.den * q.num.natAbs * q.den ≠ 0 := Nat.mul_ne_zero (Nat.mul_ne_zero p.den_nz (by omega)) q.den_nz
 rw [Rat.mkRat_eq_iff hD p.den_nz]
 have e1 := zOf_sign p.num
 have e2 := zOf_sign q.num
 obtain ⟨a, ha⟩ : ∃ a, a = p.num.natAbs := ⟨_, rfl⟩
 obtain ⟨b, hb⟩ : ∃ b, b = q.num.natAbs := ⟨_, rfl⟩
 obtain ⟨s, hs⟩ : ∃ s, s = decide (p.num < 0) := ⟨_, rfl⟩
 obtain ⟨t, ht⟩ : ∃ t, t = decide (q.num < 0) := ⟨_, rfl⟩
 rw [← ha, ← hs] at e1
 rw [← hb, ← ht] at e2
 rw [← ha, ← hb, ← hs, ← ht, ← e1, ← e2]
 generalize q.den = u
 generalize p.den = v
 clear e1 e2 ha hb hs ht
 cases s <;> cases t <;> simp [zOf] <;> grind
theorem ofQ_neg (q : Rat) : ofQ (-q) = ⟨!decide (q.num < 0) && decide (0 < (limbs q.num.natAbs).length), limbs q.num.natAbs, limbs q.den⟩ := by
 unfold ofQ
 rw [Rat.neg_num, Rat.neg_den, Int.natAbs_neg]
 congr 1
 by_cases h : q.num = 0
 ·rw [h]; simp [limbs_zero]
 ·have hl : 0 < (limbs q.num.natAbs).length := by
   have : (limbs q.num.natAbs).length ≠ 0 := fun e => h (by have := len_eq_zero.1 e; omega)
   omega
  rw [decide_eq_true hl, Bool.and_true]
  by_cases h2 : q.num < 0
  ·simp [h2]; omega
  ·simp [h2]; omega
theorem Sm_neg {k : Nat} {q : Rat} (h : Sm k q) : Sm k (-q) := by
 unfold Sm at *
 rw [Rat.neg_num, Rat.neg_den, Int.natAbs_neg]
 exact h
def cmpQ (p q : Rat) : Int := cmpZ (p.num * q.den) (q.num * p.den)
theorem cmpQ_lt {p q : Rat} (h : p < q) : cmpQ p q = -1 := by
 unfold cmpQ cmpZ
 rw [if_pos ((Rat.lt_iff p q).1 h)]
theorem cmpQ_eq (p : Rat) : cmpQ p p = 0 := by
 unfold cmpQ cmpZ
 rw [if_neg (by omega), if_pos rfl]
theorem cmpQ_gt {p q : Rat} (h : q < p) : cmpQ p q = 1 := by
 have h' := (Rat.lt_iff q p).1 h
 unfold cmpQ cmpZ
 rw [if_neg (by omega), if_neg (by omega)]
theorem rat_tri (p q : Rat) : p < q ∨ p = q ∨ q < p := by
 by_cases h : q ≤ p
 ·by_cases h2 : p ≤ q
  ·exact .inr (.inl (Rat.le_antisymm h2 h))
  ·exact .inr (.inr (Rat.not_le.1 h2))
 ·exact .inl (Rat.not_le.1 h)
theorem lt_irr (p : Rat) : ¬ p < p := fun h => absurd ((Rat.lt_iff p p).1 h) (by omega)
theorem lt_asymm {p q : Rat} (h : p < q) : ¬ q < p := fun h2 => by
 have h1 := (Rat.lt_iff p q).1 h
 have h3 := (Rat.lt_iff q p).1 h2
 omega
theorem cmpQ_neg_iff {p q : Rat} : cmpQ p q < 0 ↔ p < q := by
 rcases rat_tri p q with h | h | h
 ·rw [cmpQ_lt h]; simp [h]
 ·subst h; rw [cmpQ_eq]; simp [lt_irr]
 ·rw [cmpQ_gt h]; simp [lt_asymm h]
theorem cmpQ_zero_iff {p q : Rat} : cmpQ p q = 0 ↔ p = q := by
 rcases rat_tri p q with h | h | h
 ·rw [cmpQ_lt h]; simp; rintro rfl; exact lt_irr _ h
 ·subst h; rw [cmpQ_eq]; simp
 ·rw [cmpQ_gt h]; simp; rintro rfl; exact lt_irr _ h
theorem cmpQ_pos_iff {p q : Rat} : 0 < cmpQ p q ↔ q < p := by
 rcases rat_tri p q with h | h | h
 ·rw [cmpQ_lt h]; simp [lt_asymm h]
 ·subst h; rw [cmpQ_eq]; simp [lt_irr]
 ·rw [cmpQ_gt h]; simp [h]
def addF (x y : Fr) : Fr × Nat := if x.ok && y.ok then heldQ (x.q + y.q) else (zF, 1)
def subF (x y : Fr) : Fr × Nat := if x.ok && y.ok then heldQ (x.q - y.q) else (zF, 1)
def mulF (x y : Fr) : Fr × Nat := if x.ok && y.ok then heldQ (x.q * y.q) else (zF, 1)
def quoF (x y : Fr) : Fr × Nat := if x.ok && y.ok && decide (y.q ≠ 0) then heldQ (x.q / y.q) else (zF, 1)
def cmpF (x y : Fr) : Int := if x.ok && y.ok then cmpQ x.q y.q else 0
def signF (x : Fr) : Int := if x.ok then cmpQ x.q 0 else 0
def negF (x : Fr) : Fr := if x.ok then ofQ (-x.q) else zF
theorem addF_num {p q : Rat} (hp : Sm 64 p) (hq : Sm 64 q) : addF (ofQ p) (ofQ q) = heldQ (p + q) := by unfold addF; rw [ok_ofQ hp, ok_ofQ hq, q_ofQ, q_ofQ]; rfl
theorem subF_num {p q : Rat} (hp : Sm 64 p) (hq : Sm 64 q) : subF (ofQ p) (ofQ q) = heldQ (p - q) := by unfold subF; rw [ok_ofQ hp, ok_ofQ hq, q_ofQ, q_ofQ]; rfl
theorem mulF_num {p q : Rat} (hp : Sm 64 p) (hq : Sm 64 q) : mulF (ofQ p) (ofQ q) = heldQ (p * q) := by unfold mulF; rw [ok_ofQ hp, ok_ofQ hq, q_ofQ, q_ofQ]; rfl
theorem quoF_num {p q : Rat} (hp : Sm 64 p) (hq : Sm 64 q) (h0 : q ≠ 0) : quoF (ofQ p) (ofQ q) = heldQ (p / q) := by unfold quoF; rw [ok_ofQ hp, ok_ofQ hq, q_ofQ, q_ofQ]; simp [h0]
theorem cmpF_num {p q : Rat} (hp : Sm 64 p) (hq : Sm 64 q) : cmpF (ofQ p) (ofQ q) = cmpQ p q := by unfold cmpF; rw [ok_ofQ hp, ok_ofQ hq, q_ofQ, q_ofQ]; rfl
theorem signF_num {p : Rat} (hp : Sm 64 p) : signF (ofQ p) = cmpQ p 0 := by unfold signF; rw [ok_ofQ hp, q_ofQ]; rfl
theorem negF_num {p : Rat} (hp : Sm 64 p) : negF (ofQ p) = ofQ (-p) := by unfold negF; rw [ok_ofQ hp, q_ofQ]; rfl
theorem wf_addF (x y : Fr) : (addF x y).1.wf := by unfold addF; split; exact wf_heldQ _; exact wf_zF
theorem wf_mulF (x y : Fr) : (mulF x y).1.wf := by unfold mulF; split; exact wf_heldQ _; exact wf_zF
theorem wf_quoF (x y : Fr) : (quoF x y).1.wf := by unfold quoF; split; exact wf_heldQ _; exact wf_zF
theorem wf_negF (x : Fr) : (negF x).wf := by unfold negF; split; exact wf_ofQ _; exact wf_zF
def pairF (p : Fr × Nat) : PVal := .tup [p.1.enc, .int .i64 p.2]
def boolF (x : Fr) : PVal := .bool x.ok
def f1 (g : Fr → PVal) : List PVal → Option PVal
 | [a] => match decF a with | some x => some (g x) | none => none
 | _ => none
def f2 (g : Fr → Fr → PVal) : List PVal → Option PVal
 | [a, b] => match decF a, decF b with | some x, some y => some (g x y) | _, _ => none
 | _ => none
theorem f1_at {g : Fr → PVal} {x : Fr} (h : x.wf) : f1 g [x.enc] = some (g x) := by simp only [f1, decF_enc h]
theorem f2_at {g : Fr → Fr → PVal} {x y : Fr} (hx : x.wf) (hy : y.wf) : f2 g [x.enc, y.enc] = some (g x y) := by simp only [f2, decF_enc hx, decF_enc hy]
theorem f1_some {g : Fr → PVal} {args : List PVal} {z : PVal} (h : f1 g args = some z) : ∃ x : Fr, x.wf ∧ args = [x.enc] ∧ z = g x := by
 unfold f1 at h
 split at h
 ·split at h
  ·rename_i x hx
   cases h
   obtain ⟨rfl, w⟩ := decF_some hx
   exact ⟨x, w, rfl, rfl⟩
  ·cases h
 ·cases h
theorem f2_some {g : Fr → Fr → PVal} {args : List PVal} {z : PVal} (h : f2 g args = some z) : ∃ x y : Fr, x.wf ∧ y.wf ∧ args = [x.enc, y.enc] ∧ z = g x y := by
 unfold f2 at h
 split at h
 ·split at h
  ·rename_i x y hx hy
   cases h
   obtain ⟨rfl, wx⟩ := decF_some hx
   obtain ⟨rfl, wy⟩ := decF_some hy
   exact ⟨x, y, wx, wy, rfl, rfl⟩
  ·cases h
 ·cases h
end Go.Proofs.YtepfpgnjpkcgmaaGreat

/-
 Fractions: how big answers get; the order against sums and products; what lies between.
-/
namespace Go.Proofs.YtepfpgnjpkcgmaaGreat
open Go Go.Abs Go.Limbs
set_option maxRecDepth 20000
theorem Sm_mono {j k : Nat} {q : Rat} (h : Sm j q) (hjk : j ≤ k) : Sm k q := ⟨Nat.le_trans h.1 hjk, Nat.le_trans h.2 hjk⟩
theorem Sm_mk {k : Nat} {z : Int} {d : Nat} (hz : len z.natAbs ≤ k) (hd : len d ≤ k) (h0 : d ≠ 0) : Sm k (mkRat z d) := by
 have h := zOf_sign z
 rw [← h]
 unfold Sm
 rw [mk_num _ _ h0, mk_den _ _ h0, zOf_abs]
 exact ⟨Nat.le_trans (len_mono (Nat.div_le_self _ _)) hz, Nat.le_trans (len_mono (Nat.div_le_self _ _)) hd⟩
theorem Sm_add {j k : Nat} {p q : Rat} (hp : Sm j p) (hq : Sm k q) : Sm (j + k + 1) (p + q) := by
 rw [← add_mk]
 have h1 := len_mul p.num.natAbs q.den
 have h2 := len_mul q.num.natAbs p.den
 have h3 := len_mul p.den q.den
 have h4 := len_add (p.num.natAbs * q.den) (q.num.natAbs * p.den)
 have h5 : (p.num * q.den + q.num * p.den).natAbs ≤ p.num.natAbs * q.den + q.num.natAbs * p.den := by
  refine Nat.le_trans (Int.natAbs_add_le _ _) ?_
  rw [Int.natAbs_mul, Int.natAbs_mul]
  simp
 have h6 := len_mono h5
 obtain ⟨a1, a2⟩ := hp
 obtain ⟨b1, b2⟩ := hq
 exact Sm_mk (by omega) (by omega) (Nat.mul_ne_zero p.den_nz q.den_nz)
theorem Sm_div {j k : Nat} {p q : Rat} (hp : Sm j p) (hq : Sm k q) (h0 : q ≠ 0) : Sm (j + k) (p / q) := by
 rw [← quo_mk p h0]
 have hn : q.num ≠ 0 := fun e => h0 (Rat.num_eq_zero.1 e)
 have h1 := len_mul p.num.natAbs q.den
 have h3 := len_mul p.den q.num.natAbs
 obtain ⟨a1, a2⟩ := hp
 obtain ⟨b1, b2⟩ := hq
 exact Sm_mk (by rw [zOf_abs]; omega) (by omega) (Nat.mul_ne_zero p.den_nz (by omega))
theorem len_one : len 1 = 1 := by rw [len, limbs_small (by decide) (by decide)]; rfl
theorem Sm_int {k : Nat} {z : Int} (h : len z.natAbs ≤ k) (hk : 1 ≤ k) : Sm k (z : Rat) := ⟨h, by show len 1 ≤ k; rw [len_one]; exact hk⟩
theorem len_floor {k : Nat} {q : Rat} (h : len q.num.natAbs ≤ k) (hk : 1 ≤ k := by omega) : len q.floor.natAbs ≤ k + 1 := by
 rw [Rat.floor_def]
 have h1 : (q.num / (q.den : Int)).natAbs ≤ q.num.natAbs + 1 := by
  have hd := q.den_pos
  have e := Int.mul_ediv_add_emod q.num q.den
  have r0 := Int.emod_nonneg q.num (show (q.den : Int) ≠ 0 by omega)
  have r1 := Int.emod_lt_of_pos q.num (show (0 : Int) < q.den by omega)
  obtain ⟨x, hx⟩ : ∃ x, x = q.num / (q.den : Int) := ⟨_, rfl⟩
  rw [← hx] at e ⊢
  by_cases hx0 : 0 ≤ x
  ·have : x * 1 ≤ (q.den : Int) * x := by rw [Int.mul_comm (q.den : Int)]; exact Int.mul_le_mul_of_nonneg_left (by omega) hx0
   omega
  ·have : (q.den : Int) * (x + 1) ≤ 1 * (x + 1) := Int.mul_le_mul_of_nonpos_right (by omega) (by omega)
   rw [Int.mul_add, Int.mul_one, Int.one_mul] at this
   omega
 have h2 := len_mono h1
 have h3 := len_add q.num.natAbs 1
 rw [len_one] at h3
 omega
end Go.Proofs.YtepfpgnjpkcgmaaGreat
