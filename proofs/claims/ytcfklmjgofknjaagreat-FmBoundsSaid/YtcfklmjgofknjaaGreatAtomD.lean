/-
  What is told of ids, as law9 hands it on; the plain law of atoms; law9's awake. No conditions beyond the lemmas' own hypotheses.
-/
import Derived.Test.YtcfklmjgofknjaaGreatAtomC
import Derived.Test.YtcfklmjgofknjaaGreatAtomL
set_option linter.unusedSimpArgs false
set_option linter.unnecessarySimpa false
set_option linter.unusedVariables false
set_option linter.constructorNameAsVariable false

/-
 law9: what is told of ids.
-/
namespace Go.Proofs.YtcfklmjgofknjaaGreat
open Go Go.Abs Go.Limbs
variable {base : Prot}
set_option maxRecDepth 20000
attribute [local irreducible] vc
attribute [local simp] pureS touchV freezeL fuel shiftV u64 au
end Go.Proofs.YtcfklmjgofknjaaGreat

/-
 Atoms made of sums of fractions: the plain law.
-/
namespace Go.Proofs.YtcfklmjgofknjaaGreat
open Go Go.Abs Go.Limbs
set_option maxRecDepth 20000
def sgnQ (c : Rat) : Rat := if c < 0 then -1 else if c = 0 then 0 else 1
def szQ (k : Int) (c : Rat) : Rat := if c < 0 ∧ k ≠ 3 then -c else c
def normQ (k : Int) (P : Qo) : Qo := match P.ps with
 | [] => ⟨[], sgnQ P.c⟩
 | x :: _ => scaleQ P (1 / szQ k x.1)
def Can (k : Int) (N : Qo) : Prop := match N.ps with
 | [] => N.c = -1 ∨ N.c = 0 ∨ N.c = 1
 | x :: _ => x.1 = 1 ∨ (k ≠ 3 ∧ x.1 = -1)
def atQ (k : Int) (N : Qo) : At := ⟨k, ofP N, 0, 0⟩
theorem sm1 : Sm 1 (1 : Rat) := by decide +kernel
theorem smm1 : Sm 1 (-1 : Rat) := by decide +kernel
theorem sgn_of (c : Rat) : Rat.divInt (cmpQ c 0) 1 = sgnQ c := by
 unfold sgnQ
 rcases rat_tri c 0 with h | h | h
 ·rw [cmpQ_lt h, if_pos h]; decide +kernel
 ·subst h; rw [cmpQ_eq, if_neg (lt_irr _), if_pos rfl]; decide +kernel
 ·rw [cmpQ_gt h, if_neg (lt_asymm h), if_neg (by rintro rfl; exact lt_irr _ h)]; decide +kernel
theorem sgn_case (c : Rat) : sgnQ c = -1 ∨ sgnQ c = 0 ∨ sgnQ c = 1 := by
 unfold sgnQ
 split
 ·exact .inl rfl
 ·split
  ·exact .inr (.inl rfl)
  ·exact .inr (.inr rfl)
theorem Sm_sgn (c : Rat) : Sm 1 (sgnQ c) := by rcases sgn_case c with h | h | h <;> rw [h] <;> decide +kernel
theorem szQ_ne {k : Int} {c : Rat} (h : c ≠ 0) : szQ k c ≠ 0 := by
 unfold szQ
 split
 ·grind
 ·exact h
theorem Sm_sz {k : Int} {c : Rat} {m : Nat} (h : Sm m c) : Sm m (szQ k c) := by
 unfold szQ
 split
 ·exact Sm_neg h
 ·exact h
theorem size_of {k : Int} {x : Rat × Int} {r : QP} {d : Rat} (h : Sm 64 x.1) : sizeF k (ofP ⟨x :: r, d⟩) = ofQ (szQ k x.1) := by
 unfold sizeF ofP szQ
 simp only [List.map_cons, ofA]
 rw [signF_num h, negF_num h]
 by_cases h1 : x.1 < 0 ∧ k ≠ 3
 ·rw [if_pos h1, if_pos ⟨cmpQ_neg_iff.2 h1.1, h1.2⟩]
 ·rw [if_neg h1, if_neg (fun h => h1 ⟨cmpQ_neg_iff.1 h.1, h.2⟩)]
theorem norm_is {k : Int} {P : Qo} {m : Nat} (h : P.Is m) (hm : 1 ≤ m) : (normQ k P).Is (2 * m + 1) := by
 unfold normQ
 split
 ·exact ⟨trivial, fun x hx => (by cases hx), Sm_mono (Sm_sgn _) (by omega)⟩
 ·rename_i x r hx
  have h0 : x.1 ≠ 0 := by have := h.ok; rw [hx] at this; exact this.2.1
  have hs : Sm m x.1 := h.sp x (by rw [hx]; simp)
  exact (scaleQ_is h (Sm_div sm1 (Sm_sz hs) (szQ_ne h0))).mono (by omega)
theorem make_of {k : Int} {P : Qo} {m : Nat} (h : P.Is m) (hm : 1 ≤ m ∧ 2 * m + 1 ≤ 64) (hk : isSum (k3 k) = true) : makeAt k (ofP P) = (atQ (k3 k) (normQ (k3 k) P), decide (k = 4), 0) := by
 unfold makeAt
 rw [hk, ok_ofP (h.mono (by omega))]
 obtain ⟨ps, d⟩ := P
 cases ps with
 | nil =>
  simp only [Bool.and_self, if_true, ofP, List.map_nil, normQ, atQ]
  rw [signF_num (Sm_mono h.sc (by omega)), sgn_of]
 | cons x r =>
  have h0 : x.1 ≠ 0 := h.ok.2.1
  have hs : Sm m x.1 := h.sp x (by simp)
  have hz := Sm_sz (k := k3 k) hs
  have hz0 := szQ_ne (k := k3 k) h0
  have hd : Sm (1 + m) (1 / szQ (k3 k) x.1) := Sm_div sm1 hz hz0
  rw [size_of (Sm_mono hs (by omega)), quoF_num (Sm_mono sm1 (by decide)) (Sm_mono hz (by omega)) hz0, heldQ_ok (Sm_mono hd (by omega))]
  simp only [if_true, Bool.and_self]
  rw [scalePo_of h hd (by omega)]
  simp only [if_true, ofP, List.map_cons, normQ, atQ]
theorem scaleQ_one (P : Qo) : scaleQ P 1 = P := by
 unfold scaleQ
 rw [if_neg (by decide), Rat.mul_one]
 have : mulQ 1 P.ps = P.ps := by
  unfold mulQ
  rw [show (fun x : Rat × Int => (x.1 * 1, x.2)) = id from by funext x; simp [Rat.mul_one]]
  rw [List.map_id]
 rw [this]
theorem norm_can {k : Int} {P : Qo} {m : Nat} (h : P.Is m) : Can k (normQ k P) := by
 unfold normQ
 split
 ·exact sgn_case _
 ·rename_i x r hx
  have h0 : x.1 ≠ 0 := by have := h.ok; rw [hx] at this; exact this.2.1
  have hz0 := szQ_ne (k := k) h0
  have hz1 : 1 / szQ k x.1 ≠ 0 := by grind
  unfold Can scaleQ
  rw [if_neg hz1, hx]
  simp only [mulQ, List.map_cons]
  unfold szQ at hz0 ⊢
  split
  ·rename_i hc
   exact .inr ⟨hc.2, by grind⟩
  ·exact .inl (by grind)
theorem norm_self {k : Int} {N : Qo} (h : Can k N) : normQ k N = N := by
 obtain ⟨ps, d⟩ := N
 cases ps with
 | nil =>
  unfold normQ
  simp only [Can] at h
  have : sgnQ d = d := by rcases h with rfl | rfl | rfl <;> decide +kernel
  simp only
  rw [this]
 | cons x r =>
  simp only [Can] at h
  unfold normQ szQ
  simp only
  rcases h with e | ⟨hk, e⟩
  ·rw [e, if_neg (fun h => absurd h.1 (by decide)), show (1 : Rat) / 1 = 1 by decide +kernel, scaleQ_one]
  ·rw [e, if_pos ⟨by decide, hk⟩, show (1 : Rat) / - -1 = 1 by decide +kernel, scaleQ_one]
theorem can_ok {k : Int} {N : Qo} (hk : isSum k = true) (h : Can k N) (hN : N.Is 64) : (atQ k N).ok = true := by
 unfold At.ok atQ
 rw [if_pos hk]
 simp only [decide_eq_true_eq, Bool.and_eq_true, true_and]
 refine ⟨ok_ofP hN, ?_⟩
 obtain ⟨ps, d⟩ := N
 cases ps with
 | nil => rfl
 | cons x r =>
  simp only [Can] at h
  show unitF (ofQ x.1) (decide (k ≠ 3)) = true
  unfold unitF
  rcases h with e | ⟨hk3, e⟩
  ·rw [e, decide_eq_true (rfl : ofQ 1 = ofQ 1)]; rfl
  ·rw [e, decide_eq_true hk3, decide_eq_true (rfl : ofQ (-1) = ofQ (-1)), Bool.and_self, Bool.or_true]
theorem can_neg {k j : Int} {N : Qo} (hj : j ≠ 3) (h : Can k N) : Can j (scaleQ N (-1)) := by
 obtain ⟨ps, d⟩ := N
 unfold Can scaleQ
 rw [if_neg (by decide)]
 cases ps with
 | nil =>
  simp only [Can] at h
  simp only [mulQ, List.map_nil]
  rcases h with rfl | rfl | rfl <;> decide +kernel
 | cons x r =>
  simp only [Can] at h
  simp only [mulQ, List.map_cons]
  rcases h with e | ⟨_, e⟩
  ·rw [e]; exact .inr ⟨hj, by decide +kernel⟩
  ·rw [e]; exact .inl (by decide +kernel)
theorem not_of {k : Int} {N : Qo} {m : Nat} (hk : k = 1 ∨ k = 2) (h : Can k N) (hN : N.Is m) (hm : 2 * m + 3 ≤ 64) : notAt (atQ k N) = (atQ (3 - k) (scaleQ N (-1)), true) := by
 have hs : isSum k = true := by rcases hk with rfl | rfl <;> rfl
 have hs2 : isSum (3 - k) = true ∧ k3 (3 - k) = 3 - k ∧ 3 - k ≠ 3 := by rcases hk with rfl | rfl <;> decide
 have hN2 : (scaleQ N (-1)).Is (m + 1) := scaleQ_is hN smm1
 unfold notAt
 rw [can_ok hs h (hN.mono (by omega)), show (decide ((atQ k N).k = 1) || decide ((atQ k N).k = 2)) = true from by rcases hk with rfl | rfl <;> rfl]
 show (if _ then (if (scalePo (ofP N) (ofQ (-1))).2 = 0 then ((makeAt (3 - k) (scalePo (ofP N) (ofQ (-1))).1).1, decide ((makeAt (3 - k) (scalePo (ofP N) (ofQ (-1))).1).2.2 = 0)) else (zAt, false)) else _) = _
 rw [scalePo_of hN smm1 (by omega)]
 simp only [Bool.and_self, if_true]
 rw [make_of hN2 (by omega) (by rw [hs2.2.1]; exact hs2.1), hs2.2.1, norm_self (can_neg hs2.2.2 h)]
 rfl
end Go.Proofs.YtcfklmjgofknjaaGreat

/-
 law9: awake.
-/
namespace Go.Proofs.YtcfklmjgofknjaaGreat
open Go Go.Abs Go.Limbs
variable {base : Prot}
set_option maxRecDepth 20000
attribute [local irreducible] vc
attribute [local simp] pureS touchV freezeL fuel shiftV u64 au
def q12 : Qo := ⟨[(1, 3)], -2⟩
theorem is3 {a b : Rat} (ha : Sm 1 a) (h0 : a ≠ 0) (hb : Sm 1 b) : (⟨[(a, 3)], b⟩ : Qo).Is 1 := ⟨⟨by show (-1 : Int) < 3; decide, h0, trivial⟩, fun x hx => by
 simp only [List.mem_cons, List.not_mem_nil, or_false] at hx
 subst hx; exact ha, hb⟩
end Go.Proofs.YtcfklmjgofknjaaGreat
