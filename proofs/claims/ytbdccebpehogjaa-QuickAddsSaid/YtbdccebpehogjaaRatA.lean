/-
  Fractions as pure values, and what a row asks. AcvNo conditions beyond the lemmas' own hypotheses.
-/
import Derived.Test.YtbdccebpehogjaaNatD
import Derived.Test.YtbdccebpehogjaaNatA
import Derived.ProofKit
import Derived.LaidMore
import Derived.OpenShut
import Derived.Stop.Joined
import Derived.SliceStrings
set_option linter.unusedSimpArgs false
set_option linter.unnecessarySimpa false
set_option linter.unusedVariables false
set_option linter.constructorNameAsVariable false

/-
 Fractions as pure values: what is one, lowest terms, sums, products, quotients, the order.
-/
namespace Go.Proofs.Ytbdccebpehogjaa
open Go Go.Abs Go.Limbs
set_option maxRecDepth 20000
structure Fr where
 s : Bool
 n : List Nat
 d : List Nat
def Fr.wf (x : Fr) : Prop := Wf x.n ∧ Wf x.d
def Fr.enc (x : Fr) : PVal := .agg [.bool x.s, .lst (x.n.map u64), .lst (x.d.map u64)]
def decF : PVal → Option Fr
 | .agg [.bool s, .lst xs, .lst ys] => match decU xs, decU ys with | some l, some m => some ⟨s, l, m⟩ | _, _ => none
 | _ => none
theorem decF_enc {x : Fr} (h : x.wf) : decF x.enc = some x := by simp only [decF, Fr.enc, decU_map h.1, decU_map h.2]
theorem decF_some {v : PVal} {x : Fr} (h : decF v = some x) : v = x.enc ∧ x.wf := by
 unfold decF at h
 split at h
 ·rename_i s xs ys
  split at h
  ·rename_i l m hl hm
   cases h
   obtain ⟨rfl, wl⟩ := decU_some hl
   obtain ⟨rfl, wm⟩ := decU_some hm
   exact ⟨rfl, wl, wm⟩
  ·cases h
 ·cases h
def Fr.ok (x : Fr) : Bool := okL x.n && okL x.d && decide (val x.d ≠ 0) && (!x.s || decide (val x.n ≠ 0)) && (Nat.gcd (val x.n) (val x.d) == 1)
def Fr.q (x : Fr) : Rat := mkRat (zOf x.s (val x.n)) (val x.d)
def ofQ (q : Rat) : Fr := ⟨decide (q.num < 0), limbs q.num.natAbs, limbs q.den⟩
def zF : Fr := ⟨false, [], []⟩
def Sm (k : Nat) (q : Rat) : Prop := len q.num.natAbs ≤ k ∧ len q.den ≤ k
instance (k : Nat) (q : Rat) : Decidable (Sm k q) := inferInstanceAs (Decidable (_ ∧ _))
theorem wf_ofQ (q : Rat) : (ofQ q).wf := ⟨wf_limbs _, wf_limbs _⟩
theorem wf_zF : zF.wf := ⟨Wf.nil, Wf.nil⟩
theorem q_ofQ (q : Rat) : (ofQ q).q = q := by
 unfold Fr.q ofQ
 simp only [val_limbs, zOf_sign, Rat.mkRat_self]
theorem ofQ_inj {p q : Rat} (h : ofQ p = ofQ q) : p = q := by rw [← q_ofQ p, h, q_ofQ]
theorem sign_zOf {s : Bool} {a : Nat} (h : s = true → a ≠ 0) : s = decide (zOf s a < 0) := by
 cases s with
 | false => simp [zOf]
 | true => have := h rfl; simp [zOf]; omega
theorem Fr.ok_of {x : Fr} (h : x.ok = true) : ∃ q : Rat, Sm 64 q ∧ x = ofQ q := by
 obtain ⟨s, n, d⟩ := x
 unfold Fr.ok at h
 simp only [Bool.and_eq_true, Bool.or_eq_true, Bool.not_eq_true', decide_eq_true_eq, beq_iff_eq] at h
 obtain ⟨⟨⟨⟨h1, h2⟩, h3⟩, h4⟩, h5⟩ := h
 obtain ⟨a, rfl, ha⟩ := okL_true h1
 obtain ⟨b, rfl, hb⟩ := okL_true h2
 rw [val_limbs] at h3 h4
 rw [val_limbs, val_limbs] at h5
 have hs : s = true → a ≠ 0 := fun e => by
  rcases h4 with h | h
  ·rw [e] at h; cases h
  ·exact h
 refine ⟨⟨zOf s a, b, h3, by rw [zOf_abs]; exact h5⟩, ⟨by show len (zOf s a).natAbs ≤ 64; rw [zOf_abs]; exact ha, hb⟩, ?_⟩
 unfold ofQ
 simp only [zOf_abs]
 rw [← sign_zOf hs]
theorem ok_ofQ {q : Rat} (h : Sm 64 q) : (ofQ q).ok = true := by
 unfold Fr.ok ofQ
 simp only [val_limbs, okL_limbs h.1, okL_limbs h.2, Bool.true_and, Bool.and_true, Bool.and_eq_true, Bool.or_eq_true, Bool.not_eq_true', decide_eq_true_eq, decide_eq_false_iff_not, beq_iff_eq]
 refine ⟨⟨q.den_nz, ?_⟩, q.reduced⟩
 by_cases hn : q.num < 0
 ·exact .inr (by omega)
 ·exact .inl hn
theorem mk_num (s : Bool) (a : Nat) {b : Nat} (hb : b ≠ 0) : (mkRat (zOf s a) b).num = zOf s (a / Nat.gcd a b) := by
 rw [Rat.num_mkRat, if_neg hb, zOf_abs, Nat.gcd_comm]
 have hd : ((Nat.gcd a b : Nat) : Int) ∣ (a : Int) := Int.natCast_dvd_natCast.2 (Nat.gcd_dvd_left a b)
 cases s with
 | false => simp [zOf]
 | true =>
  simp only [zOf, if_true]
  rw [Int.neg_ediv_of_dvd hd, Int.natCast_ediv]
theorem mk_den (s : Bool) (a : Nat) {b : Nat} (hb : b ≠ 0) : (mkRat (zOf s a) b).den = b / Nat.gcd a b := by
 rw [Rat.den_mkRat, if_neg hb, zOf_abs, Nat.gcd_comm]
theorem ofQ_mk (s : Bool) (a : Nat) {b : Nat} (hb : b ≠ 0) : ofQ (mkRat (zOf s a) b) = ⟨s && decide (0 < (limbs (a / Nat.gcd a b)).length), limbs (a / Nat.gcd a b), limbs (b / Nat.gcd a b)⟩ := by
 unfold ofQ
 rw [mk_num s a hb, mk_den s a hb, zOf_abs]
 congr 1
 obtain ⟨m, hm⟩ : ∃ m, m = a / Nat.gcd a b := ⟨_, rfl⟩
 rw [← hm]
 by_cases h : m = 0
 ·subst h
  cases s <;> simp [zOf, limbs_zero]
 ·have hl : 0 < (limbs m).length := by
   have : (limbs m).length ≠ 0 := fun e => h (len_eq_zero.1 e)
   omega
  rw [decide_eq_true hl, Bool.and_true, ← sign_zOf fun _ => h]
def heldQ (q : Rat) : Fr × Nat := if Sm 64 q then (ofQ q, 0) else (zF, 4)
theorem heldQ_ok {q : Rat} (h : Sm 64 q) : heldQ q = (ofQ q, 0) := if_pos h
theorem heldQ_mk (s : Bool) (a : Nat) {b : Nat} (hb : b ≠ 0) : heldQ (mkRat (zOf s a) b) = if len (a / Nat.gcd a b) ≤ 64 ∧ len (b / Nat.gcd a b) ≤ 64 then (⟨s && decide (0 < (limbs (a / Nat.gcd a b)).length), limbs (a / Nat.gcd a b), limbs (b / Nat.gcd a b)⟩, 0) else (zF, 4) := by
 have e : Sm 64 (mkRat (zOf s a) b) ↔ len (a / Nat.gcd a b) ≤ 64 ∧ len (b / Nat.gcd a b) ≤ 64 := by
  unfold Sm
  rw [mk_num s a hb, mk_den s a hb, zOf_abs]
 unfold heldQ
 by_cases h : Sm 64 (mkRat (zOf s a) b)
 ·rw [if_pos h, if_pos (e.1 h), ofQ_mk s a hb]
 ·rw [if_neg h, if_neg fun hh => h (e.2 hh)]
theorem add_mk (p q : Rat) : mkRat (p.num * q.den + q.num * p.den) (p.den * q.den) = p + q := by
 have := Rat.mkRat_add_mkRat p.num q.num p.den_nz q.den_nz
 rw [Rat.mkRat_self, Rat.mkRat_self] at this
 exact this.symm
theorem ofQ_neg (q : Rat) : ofQ (-q) = ⟨!decide (q.num < 0) && decide (0 < (limbs q.num.natAbs).length), limbs q.num.natAbs, limbs q.den⟩ := by
 unfold ofQ
 rw [Rat.neg_num, Rat.neg_den, Int.natAbs_neg]
 congr 1
 by_cases h : q.num = 0
 ·rw [h]; simp [limbs_zero]
 ·have hl : 0 < (limbs q.num.natAbs).length := by
   have : (limbs q.num.natAbs).length ≠ 0 := fun e => h (by have := len_eq_zero.1 e; omega)
   omega
  rw [decide_eq_true hl, Bool.and_true]
  by_cases h2 : q.num < 0
  ·simp [h2]; omega
  ·simp [h2]; omega
theorem Sm_neg {k : Nat} {q : Rat} (h : Sm k q) : Sm k (-q) := by
 unfold Sm at *
 rw [Rat.neg_num, Rat.neg_den, Int.natAbs_neg]
 exact h
def cmpQ (p q : Rat) : Int := cmpZ (p.num * q.den) (q.num * p.den)
theorem cmpQ_lt {p q : Rat} (h : p < q) : cmpQ p q = -1 := by
 unfold cmpQ cmpZ
 rw [if_pos ((Rat.lt_iff p q).1 h)]
theorem cmpQ_eq (p : Rat) : cmpQ p p = 0 := by
 unfold cmpQ cmpZ
 rw [if_neg (by omega), if_pos rfl]
theorem cmpQ_gt {p q : Rat} (h : q < p) : cmpQ p q = 1 := by
 have h' := (Rat.lt_iff q p).1 h
 unfold cmpQ cmpZ
 rw [if_neg (by omega), if_neg (by omega)]
theorem rat_tri (p q : Rat) : p < q ∨ p = q ∨ q < p := by
 by_cases h : q ≤ p
 ·by_cases h2 : p ≤ q
  ·exact .inr (.inl (Rat.le_antisymm h2 h))
  ·exact .inr (.inr (Rat.not_le.1 h2))
 ·exact .inl (Rat.not_le.1 h)
theorem lt_irr (p : Rat) : ¬ p < p := fun h => absurd ((Rat.lt_iff p p).1 h) (by omega)
theorem lt_asymm {p q : Rat} (h : p < q) : ¬ q < p := fun h2 => by
 have h1 := (Rat.lt_iff p q).1 h
 have h3 := (Rat.lt_iff q p).1 h2
 omega
theorem cmpQ_zero_iff {p q : Rat} : cmpQ p q = 0 ↔ p = q := by
 rcases rat_tri p q with h | h | h
 ·rw [cmpQ_lt h]; simp; rintro rfl; exact lt_irr _ h
 ·subst h; rw [cmpQ_eq]; simp
 ·rw [cmpQ_gt h]; simp; rintro rfl; exact lt_irr _ h
theorem cmpQ_pos_iff {p q : Rat} : 0 < cmpQ p q ↔ q < p := by
 rcases rat_tri p q with h | h | h
 ·rw [cmpQ_lt h]; simp [lt_asymm h]
 ·subst h; rw [cmpQ_eq]; simp [lt_irr]
 ·rw [cmpQ_gt h]; simp [h]
def addF (x y : Fr) : Fr × Nat := if x.ok && y.ok then heldQ (x.q + y.q) else (zF, 1)
def cmpF (x y : Fr) : Int := if x.ok && y.ok then cmpQ x.q y.q else 0
def signF (x : Fr) : Int := if x.ok then cmpQ x.q 0 else 0
def negF (x : Fr) : Fr := if x.ok then ofQ (-x.q) else zF
theorem addF_num {p q : Rat} (hp : Sm 64 p) (hq : Sm 64 q) : addF (ofQ p) (ofQ q) = heldQ (p + q) := by unfold addF; rw [ok_ofQ hp, ok_ofQ hq, q_ofQ, q_ofQ]; rfl
theorem cmpF_num {p q : Rat} (hp : Sm 64 p) (hq : Sm 64 q) : cmpF (ofQ p) (ofQ q) = cmpQ p q := by unfold cmpF; rw [ok_ofQ hp, ok_ofQ hq, q_ofQ, q_ofQ]; rfl
theorem signF_num {p : Rat} (hp : Sm 64 p) : signF (ofQ p) = cmpQ p 0 := by unfold signF; rw [ok_ofQ hp, q_ofQ]; rfl
theorem negF_num {p : Rat} (hp : Sm 64 p) : negF (ofQ p) = ofQ (-p) := by unfold negF; rw [ok_ofQ hp, q_ofQ]; rfl
theorem wf_negF (x : Fr) : (negF x).wf := by unfold negF; split; exact wf_ofQ _; exact wf_zF
def pairF (p : Fr × Nat) : PVal := .tup [p.1.enc, .int .i64 p.2]
def boolF (x : Fr) : PVal := .bool x.ok
def f1 (g : Fr → PVal) : List PVal → Option PVal
 | [a] => match decF a with | some x => some (g x) | none => none
 | _ => none
def f2 (g : Fr → Fr → PVal) : List PVal → Option PVal
 | [a, b] => match decF a, decF b with | some x, some y => some (g x y) | _, _ => none
 | _ => none
theorem f1_at {g : Fr → PVal} {x : Fr} (h : x.wf) : f1 g [x.enc] = some (g x) := by simp only [f1, decF_enc h]
theorem f2_at {g : Fr → Fr → PVal} {x y : Fr} (hx : x.wf) (hy : y.wf) : f2 g [x.enc, y.enc] = some (g x y) := by simp only [f2, decF_enc hx, decF_enc hy]
theorem f1_some {g : Fr → PVal} {args : List PVal} {z : PVal} (h : f1 g args = some z) : ∃ x : Fr, x.wf ∧ args = [x.enc] ∧ z = g x := by
 unfold f1 at h
 split at h
 ·split at h
  ·rename_i x hx
   cases h
   obtain ⟨rfl, w⟩ := decF_some hx
   exact ⟨x, w, rfl, rfl⟩
  ·cases h
 ·cases h
theorem f2_some {g : Fr → Fr → PVal} {args : List PVal} {z : PVal} (h : f2 g args = some z) : ∃ x y : Fr, x.wf ∧ y.wf ∧ args = [x.enc, y.enc] ∧ z = g x y := by
 unfold f2 at h
 split at h
 ·split at h
  ·rename_i x y hx hy
   cases h
   obtain ⟨rfl, wx⟩ := decF_some hx
   obtain ⟨rfl, wy⟩ := decF_some hy
   exact ⟨x, y, wx, wy, rfl, rfl⟩
  ·cases h
 ·cases h
end Go.Proofs.Ytbdccebpehogjaa

/-
 What a row asks: arguments that are rows of limbs; and what follows a call that changes nothing below.
-/
namespace Go.Abs
open Go.ChangeShapes Go.WideShapes Go.ChangeAt Go.WideMaps Go.WideElems Go.RowKit Go.Limbs
section
variable {H : Type} {enc : TypeId × Value → H} {P : Program}
theorem post_below {f : Func} {s : ChangeSpec} {apart fresh handsOn again : Bool} {W W' : World} {args : Array Value} {v : Value} {ds gs : List (DataW H)} {before pa pv : List MemPlace}
  (hW : DataW.Whole enc P f.params.toList s.vars apart W args.toList ds gs before)
  (hres : ∀ (b : Nat) (sp : Nat → Bool) (hd : Bool), DataW.TrodAll enc P W' b sp hd f.resultTypes.toList (v.resultList f.resultTypes.size) (s.fn H (ds ++ gs)).results [])
  (hargs : ∀ sp : Nat → Bool, (∀ p ∈ before, sp p.block = true) → DataW.TrodAll enc P W' 0 sp true f.params.toList args.toList (s.fn H (ds ++ gs)).args pa)
  (hvars : ∀ sp : Nat → Bool, (∀ p ∈ before, sp p.block = true) → DataW.TrodVars enc P W' sp s.vars (s.fn H (ds ++ gs)).vars pv)
  (hps : before = pa ++ pv) (hb : RowKit.Below W.heap.size W W')
  (hok : ∀ (j : Nat) (t : TypeId) (r : Value), f.resultTypes[j]? = some t → (v.resultList f.resultTypes.size)[j]? = some r → Value.okWide P W' .any 0 t r) :
  s.post enc P f apart fresh handsOn again W args v W' := by
 have hlt : ∀ p ∈ before, p.block < W.heap.size := fun p hp => hW.lt p hp
 have hold : ∀ p ∈ before, (fun b => decide (b < W.heap.size)) p.block = true := fun p hp => by simpa using hlt p hp
 refine ⟨ds, gs, before, [], pa, pv, hW, hres _ _ _, hargs _ hold, hvars _ hold, World.keptBut_mono (fun p hp => ⟨hp, ?_⟩) (hb.frame (· ∈ before)), fun _ => ?_⟩
 ·rw [hps, List.mem_append] at hp
  exact Or.inr hp
 ·obtain ⟨_, _, _, _, _, hz, hn⟩ := hW
  refine ⟨hok, _, _, ([] ++ pa) ++ pv, ⟨[] ++ pa, pv, trodAll_append (hargs _ (fun _ _ => rfl)) (hres _ _ _), hvars _ (fun _ _ => rfl), rfl, ?_, ?_⟩, ?_⟩
  ·intro b off hp
   have hin : MemPlace.cell b off ∈ before := by rw [hps]; simpa using hp
   rw [hb.frozen (hlt _ hin)]
   exact hz b off hin
  ·intro ha
   have := hn ha
   rw [hps] at this
   simpa using this
  ·intro p hp _
   rw [hps]
   simpa using hp
end
section
variable {H : Type} {enc : TypeId × Value → H} {P : Program} {W : World} {sp : Nat → Bool}
end
end Go.Abs
