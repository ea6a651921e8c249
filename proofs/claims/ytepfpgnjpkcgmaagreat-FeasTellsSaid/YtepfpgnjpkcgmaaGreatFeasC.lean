/-
  Sets of spans as they lie in memory: the plain law. No conditions beyond the lemmas' own hypotheses.
-/
import Derived.Test.YtepfpgnjpkcgmaaGreatFeasB
set_option linter.unusedSimpArgs false
set_option linter.unnecessarySimpa false
set_option linter.unusedVariables false
set_option linter.constructorNameAsVariable false

/-
 Sets of spans: from what lies in memory to spans over ends, and back.
-/
namespace Go.Proofs.YtepfpgnjpkcgmaaGreat
open Go Go.Abs Go.Limbs
def Sp.good (x : Sp) : Prop := boundS x.lo x.nl x.o1 = true ∧ boundS x.hi x.nh x.o2 = true
def lowE (a : Fr) (no o : Bool) : EC := if no = true then .lo else .at a.q o
def highE (a : Fr) (no o : Bool) : EC := if no = true then .hi else .at a.q (!o)
def Sp.e (x : Sp) : ES := ⟨lowE x.lo x.nl x.o1, highE x.hi x.nh x.o2⟩
theorem bound_no {a : Fr} {o : Bool} (h : boundS a true o = true) : a = zF ∧ o = false := by
 simpa [boundS] using h
theorem bound_ok {a : Fr} {o : Bool} (h : boundS a false o = true) : a.ok = true := by
 simpa [boundS] using h
theorem fr_inj {a b : Fr} (ha : a.ok = true) (hb : b.ok = true) (h : a.q = b.q) : a = b := by
 obtain ⟨p, _, rfl⟩ := Fr.ok_of ha
 obtain ⟨q, _, rfl⟩ := Fr.ok_of hb
 rw [q_ofQ, q_ofQ] at h
 rw [h]
theorem low_inj {a b : Fr} {n m o p : Bool} (h : boundS a n o = true) (h' : boundS b m p = true) (e : lowE a n o = lowE b m p) : a = b ∧ n = m ∧ o = p := by
 unfold lowE at e
 cases n <;> cases m <;> simp at e
 ·exact ⟨fr_inj (bound_ok h) (bound_ok h') e.1, rfl, e.2⟩
 ·obtain ⟨rfl, rfl⟩ := bound_no h
  obtain ⟨rfl, rfl⟩ := bound_no h'
  exact ⟨rfl, rfl, rfl⟩
theorem high_inj {a b : Fr} {n m o p : Bool} (h : boundS a n o = true) (h' : boundS b m p = true) (e : highE a n o = highE b m p) : a = b ∧ n = m ∧ o = p := by
 unfold highE at e
 cases n <;> cases m <;> simp at e
 ·exact ⟨fr_inj (bound_ok h) (bound_ok h') e.1, rfl, e.2⟩
 ·obtain ⟨rfl, rfl⟩ := bound_no h
  obtain ⟨rfl, rfl⟩ := bound_no h'
  exact ⟨rfl, rfl, rfl⟩
theorem good_inj {x y : Sp} (hx : x.good) (hy : y.good) (h : x.e = y.e) : x = y := by
 obtain ⟨h1, h2⟩ := hx
 obtain ⟨h3, h4⟩ := hy
 simp only [Sp.e, ES.mk.injEq] at h
 obtain ⟨a1, a2, a3⟩ := low_inj h1 h3 h.1
 obtain ⟨b1, b2, b3⟩ := high_inj h2 h4 h.2
 exact sp_eq.2 ⟨a2, b2, a3, b3, a1, b1⟩
theorem goods_inj : ∀ {s u : List Sp}, (∀ x ∈ s, x.good) → (∀ x ∈ u, x.good) → s.map Sp.e = u.map Sp.e → s = u
 | [], [], _, _, _ => rfl
 | [], _ :: _, _, _, h => by simp at h
 | _ :: _, [], _, _, h => by simp at h
 | a :: s, b :: u, hs, hu, h => by
  simp only [List.map_cons, List.cons.injEq] at h
  rw [good_inj (hs a (by simp)) (hu b (by simp)) h.1, goods_inj (fun x hx => hs x (by simp [hx])) (fun x hx => hu x (by simp [hx])) h.2]
theorem at_lt {p q : Rat} {a b : Bool} : (EC.at p a < EC.at q b) ↔ p < q ∨ (p = q ∧ a = false ∧ b = true) := by
 show ¬ (EC.le (.at q b) (.at p a) = true) ↔ _
 simp only [EC.le]
 rcases rat_tri p q with h | h | h
 ·have h1 : ¬ q < p := lt_asymm h
  have h2 : ¬ q = p := fun e => by rw [e] at h; exact lt_irr _ h
  simp [h, h1, h2]
 ·subst h
  simp [lt_irr]
  cases a <;> cases b <;> simp
 ·have h1 : ¬ p < q := lt_asymm h
  have h2 : ¬ p = q := fun e => by rw [e] at h; exact lt_irr _ h
  simp [h, h1, h2]
theorem at_le {p q : Rat} {a b : Bool} : (EC.at p a ≤ EC.at q b) ↔ p < q ∨ (p = q ∧ (a = false ∨ b = true)) := by
 show (EC.le (.at p a) (.at q b) = true) ↔ _
 simp only [EC.le]
 simp
theorem lo_lt_at {q : Rat} {b : Bool} : EC.lo < EC.at q b := by show ¬ (EC.le _ _ = true); simp [EC.le]
theorem lo_lt_hi : EC.lo < EC.hi := by show ¬ (EC.le _ _ = true); simp [EC.le]
theorem at_lt_hi {q : Rat} {b : Bool} : EC.at q b < EC.hi := by show ¬ (EC.le _ _ = true); simp [EC.le]
theorem not_lt_lo {x : EC} : ¬ x < EC.lo := by show ¬ ¬ (EC.le _ _ = true); simp [EC.le]
theorem not_hi_lt {x : EC} : ¬ EC.hi < x := by show ¬ ¬ (EC.le _ _ = true); cases x <;> simp [EC.le]
theorem cmpF_ok {x y : Fr} (hx : x.ok = true) (hy : y.ok = true) : cmpF x y = cmpQ x.q y.q := by unfold cmpF; rw [hx, hy]; rfl
theorem some_iff {x : Sp} (h : x.good) : someS x = decide (x.e.l < x.e.h) := by
 obtain ⟨lo, hi, nl, nh, o1, o2⟩ := x
 obtain ⟨h1, h2⟩ := h
 unfold someS Sp.e lowE highE
 dsimp only at h1 h2 ⊢
 cases nl <;> cases nh <;> simp [lo_lt_at, lo_lt_hi, at_lt_hi]
 rw [cmpF_ok (bound_ok h1) (bound_ok h2), Bool.eq_iff_iff]
 simp [at_lt, cmpQ_neg_iff, cmpQ_zero_iff]
theorem apart_iff {x y : Sp} (h : x.good) (h' : y.good) : apartS x y = decide (x.e.h < y.e.l) := by
 obtain ⟨lo, hi, nl, nh, o1, o2⟩ := x
 obtain ⟨lo', hi', nl', nh', o1', o2'⟩ := y
 obtain ⟨h1, h2⟩ := h
 obtain ⟨h3, h4⟩ := h'
 unfold apartS Sp.e lowE highE
 dsimp only at h1 h2 h3 h4 ⊢
 cases nh <;> cases nl' <;> simp [not_lt_lo, not_hi_lt]
 rw [cmpF_ok (bound_ok h2) (bound_ok h3), Bool.eq_iff_iff]
 simp [at_lt, cmpQ_neg_iff, cmpQ_zero_iff]
def tE (a _b : ES) : Bool := match a.h with | .at _ o => !o | _ => false
theorem sooner_iff {x y : Sp} (h : x.good) (h' : y.good) : soonerS x y = decide (x.e.h < y.e.h ∨ x.e.h = y.e.h ∧ tE x.e y.e = true) := by
 obtain ⟨lo, hi, nl, nh, o1, o2⟩ := x
 obtain ⟨lo', hi', nl', nh', o1', o2'⟩ := y
 obtain ⟨h1, h2⟩ := h
 obtain ⟨h3, h4⟩ := h'
 unfold soonerS Sp.e tE lowE highE
 dsimp only at h1 h2 h3 h4 ⊢
 cases nh <;> cases nh' <;> simp [not_hi_lt, at_lt_hi]
 rw [cmpF_ok (bound_ok h2) (bound_ok h4), Bool.eq_iff_iff]
 simp [at_lt, cmpQ_neg_iff, cmpQ_zero_iff]
 cases o2 <;> cases o2' <;> simp <;> grind
theorem valid_ab {a : Sp} (ha : a.good) : ∀ {l : List Sp}, validP (some a) l = true ↔ (∀ x ∈ l, x.good) ∧ Ab a.e.h (l.map Sp.e)
 | [] => by simp [validP, Ab]
 | x :: r => by
  have ih := fun hx => valid_ab (a := x) hx (l := r)
  simp only [validP, okS, apO, Bool.and_eq_true, List.mem_cons, forall_eq_or_imp, List.map_cons, Ab]
  constructor
  ·rintro ⟨⟨h1, h2, h3⟩, h4, h5⟩
   have hg : x.good := ⟨h1, h2⟩
   rw [some_iff hg] at h3
   rw [apart_iff ha hg] at h4
   obtain ⟨i1, i2⟩ := (ih hg).1 h5
   exact ⟨⟨hg, i1⟩, of_decide_eq_true h4, of_decide_eq_true h3, i2⟩
  ·rintro ⟨⟨hg, i1⟩, h4, h3, i2⟩
   rw [some_iff hg, apart_iff ha hg]
   exact ⟨⟨hg.1, hg.2, decide_eq_true h3⟩, decide_eq_true h4, (ih hg).2 ⟨i1, i2⟩⟩
theorem valid_iff {l : List Sp} : validP none l = true ↔ (∀ x ∈ l, x.good) ∧ Ok (l.map Sp.e) := by
 cases l with
 | nil => simp [validP, Ok]
 | cons x r =>
  simp only [validP, okS, apO, Bool.and_eq_true, List.mem_cons, forall_eq_or_imp, List.map_cons, Ok]
  constructor
  ·rintro ⟨⟨h1, h2, h3⟩, -, h5⟩
   have hg : x.good := ⟨h1, h2⟩
   rw [some_iff hg] at h3
   obtain ⟨i1, i2⟩ := (valid_ab hg).1 h5
   exact ⟨⟨hg, i1⟩, of_decide_eq_true h3, i2⟩
  ·rintro ⟨⟨hg, i1⟩, h3, i2⟩
   rw [some_iff hg]
   exact ⟨⟨hg.1, hg.2, decide_eq_true h3⟩, trivial, (valid_ab hg).2 ⟨i1, i2⟩⟩
theorem later_max {a b : Sp} (ha : a.good) (hb : b.good) : (if laterS b a = true then b.e.l else a.e.l) = maxE a.e.l b.e.l := by
 obtain ⟨lo, hi, nl, nh, o1, o2⟩ := a
 obtain ⟨lo', hi', nl', nh', o1', o2'⟩ := b
 obtain ⟨h1, h2⟩ := ha
 obtain ⟨h3, h4⟩ := hb
 unfold laterS Sp.e maxE lowE
 dsimp only at h1 h2 h3 h4 ⊢
 have c := fun (e : nl = false) (e' : nl' = false) => cmpF_ok (x := lo') (y := lo) (bound_ok (by rw [← e']; exact h3)) (bound_ok (by rw [← e]; exact h1))
 cases nl <;> cases nl' <;> simp only [Bool.false_or, Bool.or_false, Bool.or_true, Bool.not_true, Bool.not_false, if_true, Bool.false_eq_true, if_false, EC.lo_le]
 ·rw [c rfl rfl]
  simp only [Bool.or_eq_true, Bool.and_eq_true, decide_eq_true_eq, cmpQ_pos_iff, cmpQ_zero_iff, at_le]
  rcases rat_tri lo.q lo'.q with h | h | h
  ·simp [h]
  ·rw [h]; simp [lt_irr]; cases o1 <;> cases o1' <;> simp
  ·have e1 : ¬ lo.q < lo'.q := lt_asymm h
   have e2 : ¬ lo'.q = lo.q := fun e => by rw [e] at h; exact lt_irr _ h
   have e3 : ¬ lo.q = lo'.q := fun e => e2 e.symm
   simp [e1, e2, e3]
 ·have : ¬ (EC.at lo.q o1 ≤ EC.lo) := by show ¬ (EC.le _ _ = true); simp [EC.le]
  rw [if_neg this]
theorem sooner_min {a b : Sp} (ha : a.good) (hb : b.good) : (if soonerS b a = true then b.e.h else a.e.h) = minE a.e.h b.e.h := by
 rw [sooner_iff hb ha]
 simp only [decide_eq_true_eq, minE]
 split <;> split <;> grind
def bothS (a b : Sp) : Sp := ⟨if laterS b a = true then b.lo else a.lo, if soonerS b a = true then b.hi else a.hi, if laterS b a = true then b.nl else a.nl, if soonerS b a = true then b.nh else a.nh, if laterS b a = true then b.o1 else a.o1, if soonerS b a = true then b.o2 else a.o2⟩
theorem both_wf {a b : Sp} (ha : a.wf) (hb : b.wf) : (bothS a b).wf := by
 unfold bothS Sp.wf
 constructor
 ·dsimp only; split; exact hb.1; exact ha.1
 ·dsimp only; split; exact hb.2; exact ha.2
theorem both_good {a b : Sp} (ha : a.good) (hb : b.good) : (bothS a b).good := by
 unfold bothS Sp.good
 constructor
 ·dsimp only; split; exact hb.1; exact ha.1
 ·dsimp only; split; exact hb.2; exact ha.2
theorem both_e {a b : Sp} (ha : a.good) (hb : b.good) : (bothS a b).e = bothE a.e b.e := by
 unfold bothE
 rw [← later_max ha hb, ← sooner_min ha hb]
 unfold bothS Sp.e
 dsimp only
 congr 1
 ·split <;> rfl
 ·split <;> rfl
def meetS : List Sp → List Sp → List Sp
 | [], _ => []
 | _ :: _, [] => []
 | a :: s, b :: u =>
  let rest := if soonerS a b = true then meetS s (b :: u) else meetS (a :: s) u
  if someS (bothS a b) = true then bothS a b :: rest else rest
termination_by s u => s.length + u.length
theorem meetS_e : ∀ (s u : List Sp), (∀ x ∈ s, x.good) → (∀ x ∈ u, x.good) → (meetS s u).map Sp.e = meetE tE (s.map Sp.e) (u.map Sp.e) ∧ ∀ x ∈ meetS s u, x.good
 | [], u, _, _ => by simp [meetS, meetE]
 | _ :: _, [], _, _ => by simp [meetS, meetE]
 | a :: s, b :: u, hs, hu => by
  have ha := hs a (by simp)
  have hb := hu b (by simp)
  obtain ⟨i1, i2⟩ := meetS_e s (b :: u) (fun x hx => hs x (by simp [hx])) hu
  obtain ⟨j1, j2⟩ := meetS_e (a :: s) u hs (fun x hx => hu x (by simp [hx]))
  have hg := both_good ha hb
  rw [meetS, List.map_cons, List.map_cons, meetE, some_iff hg, both_e ha hb, sooner_iff ha hb]
  simp only [decide_eq_true_eq]
  have key : (if a.e.h < b.e.h ∨ a.e.h = b.e.h ∧ tE a.e b.e = true then meetS s (b :: u) else meetS (a :: s) u).map Sp.e = (if a.e.h < b.e.h ∨ a.e.h = b.e.h ∧ tE a.e b.e = true then meetE tE (s.map Sp.e) (b.e :: u.map Sp.e) else meetE tE (a.e :: s.map Sp.e) (u.map Sp.e)) ∧ ∀ x ∈ (if a.e.h < b.e.h ∨ a.e.h = b.e.h ∧ tE a.e b.e = true then meetS s (b :: u) else meetS (a :: s) u), x.good := by
   split
   ·exact ⟨i1, i2⟩
   ·exact ⟨j1, j2⟩
  obtain ⟨k1, k2⟩ := key
  split
  ·refine ⟨by rw [List.map_cons, both_e ha hb, k1], fun x hx => ?_⟩
   rcases List.mem_cons.1 hx with rfl | hx
   ·exact hg
   ·exact k2 x hx
  ·exact ⟨k1, k2⟩
termination_by s u => s.length + u.length
end Go.Proofs.YtepfpgnjpkcgmaaGreat

/-
 Sets of spans: what is not in one, and the reference's way to what is in both.
-/
namespace Go.Proofs.YtepfpgnjpkcgmaaGreat
open Go Go.Abs Go.Limbs
def otherS (lo : Fr) (nl o1 : Bool) : List Sp → List Sp
 | [] => [⟨lo, zF, nl, true, o1, false⟩]
 | x :: r =>
  let rest := if x.nh = true then [] else otherS x.hi false (!x.o2) r
  if x.nl = true then rest else ⟨lo, x.lo, nl, false, o1, !x.o1⟩ :: rest
def lowB (a b : Sp) : Bool := a.nl || (!b.nl && (decide (cmpF a.lo b.lo < 0) || (decide (cmpF a.lo b.lo = 0) && b.o1)))
def highB (a b : Sp) : Bool := a.nh || (!b.nh && (decide (0 < cmpF a.hi b.hi) || (decide (cmpF a.hi b.hi = 0) && b.o2)))
def bothR (a b : Sp) : Sp := ⟨if lowB a b = true then b.lo else a.lo, if highB a b = true then b.hi else a.hi, if lowB a b = true then b.nl else a.nl, if highB a b = true then b.nh else a.nh, if lowB a b = true then b.o1 else a.o1, if highB a b = true then b.o2 else a.o2⟩
theorem bothR_wf {a b : Sp} (ha : a.wf) (hb : b.wf) : (bothR a b).wf := by
 unfold bothR Sp.wf
 constructor
 ·dsimp only; split; exact hb.1; exact ha.1
 ·dsimp only; split; exact hb.2; exact ha.2
theorem bothR_good {a b : Sp} (ha : a.good) (hb : b.good) : (bothR a b).good := by
 unfold bothR Sp.good
 constructor
 ·dsimp only; split; exact hb.1; exact ha.1
 ·dsimp only; split; exact hb.2; exact ha.2
theorem lowB_max {a b : Sp} (ha : a.good) (hb : b.good) : (if lowB a b = true then b.e.l else a.e.l) = maxE a.e.l b.e.l := by
 obtain ⟨lo, hi, nl, nh, o1, o2⟩ := a
 obtain ⟨lo', hi', nl', nh', o1', o2'⟩ := b
 obtain ⟨h1, h2⟩ := ha
 obtain ⟨h3, h4⟩ := hb
 unfold lowB Sp.e maxE lowE
 dsimp only at h1 h2 h3 h4 ⊢
 have c := fun (e : nl = false) (e' : nl' = false) => cmpF_ok (x := lo) (y := lo') (bound_ok (by rw [← e]; exact h1)) (bound_ok (by rw [← e']; exact h3))
 cases nl <;> cases nl' <;> simp only [Bool.false_or, Bool.true_or, Bool.not_true, Bool.not_false, Bool.true_and, Bool.false_and, if_true, Bool.false_eq_true, if_false, EC.lo_le]
 ·rw [c rfl rfl]
  simp only [Bool.or_eq_true, Bool.and_eq_true, decide_eq_true_eq, cmpQ_neg_iff, cmpQ_zero_iff, at_le]
  rcases rat_tri lo.q lo'.q with h | h | h
  ·simp [h]
  ·rw [h]; simp [lt_irr]; cases o1 <;> cases o1' <;> simp
  ·have e1 : ¬ lo.q < lo'.q := lt_asymm h
   have e2 : ¬ lo'.q = lo.q := fun e => by rw [e] at h; exact lt_irr _ h
   have e3 : ¬ lo.q = lo'.q := fun e => e2 e.symm
   simp [e1, e3]
 ·have : ¬ (EC.at lo.q o1 ≤ EC.lo) := by show ¬ (EC.le _ _ = true); simp [EC.le]
  rw [if_neg this]
theorem highB_min {a b : Sp} (ha : a.good) (hb : b.good) : (if highB a b = true then b.e.h else a.e.h) = minE a.e.h b.e.h := by
 obtain ⟨lo, hi, nl, nh, o1, o2⟩ := a
 obtain ⟨lo', hi', nl', nh', o1', o2'⟩ := b
 obtain ⟨h1, h2⟩ := ha
 obtain ⟨h3, h4⟩ := hb
 unfold highB Sp.e minE highE
 dsimp only at h1 h2 h3 h4 ⊢
 have c := fun (e : nh = false) (e' : nh' = false) => cmpF_ok (x := hi) (y := hi') (bound_ok (by rw [← e]; exact h2)) (bound_ok (by rw [← e']; exact h4))
 cases nh <;> cases nh' <;> simp only [Bool.false_or, Bool.true_or, Bool.not_true, Bool.not_false, Bool.true_and, Bool.false_and, if_true, Bool.false_eq_true, if_false, EC.le_hi]
 ·rw [c rfl rfl]
  simp only [Bool.or_eq_true, Bool.and_eq_true, decide_eq_true_eq, cmpQ_pos_iff, cmpQ_zero_iff, at_le]
  rcases rat_tri hi.q hi'.q with h | h | h
  ·have e1 : ¬ hi'.q < hi.q := lt_asymm h
   have e2 : ¬ hi.q = hi'.q := fun e => by rw [e] at h; exact lt_irr _ h
   simp [h, e1, e2]
  ·rw [h]; simp [lt_irr]; cases o2 <;> cases o2' <;> simp
  ·have e1 : ¬ hi.q < hi'.q := lt_asymm h
   have e3 : ¬ hi.q = hi'.q := fun e => by rw [e] at h; exact lt_irr _ h
   simp [h, e1, e3]
 ·have : ¬ (EC.hi ≤ EC.at hi'.q (!o2')) := by show ¬ (EC.le _ _ = true); simp [EC.le]
  rw [if_neg this]
theorem bothR_e {a b : Sp} (ha : a.good) (hb : b.good) : (bothR a b).e = bothE a.e b.e := by
 unfold bothE
 rw [← lowB_max ha hb, ← highB_min ha hb]
 unfold bothR Sp.e
 dsimp only
 congr 1
 ·split <;> rfl
 ·split <;> rfl
def rowR (a : Sp) : List Sp → List Sp
 | [] => []
 | b :: u => if okS (bothR a b) = true then bothR a b :: rowR a u else rowR a u
def meetRS : List Sp → List Sp → List Sp
 | [], _ => []
 | a :: s, u => rowR a u ++ meetRS s u
theorem okS_good {x : Sp} (h : x.good) : okS x = someS x := by
 unfold okS
 rw [h.1, h.2]
 rfl
theorem rowR_e {a : Sp} (ha : a.good) : ∀ (u : List Sp), (∀ x ∈ u, x.good) → (rowR a u).map Sp.e = rowS a.e (u.map Sp.e) ∧ ∀ x ∈ rowR a u, x.good
 | [], _ => by simp [rowR, rowS]
 | b :: u, hu => by
  have hb := hu b (by simp)
  obtain ⟨i1, i2⟩ := rowR_e ha u (fun x hx => hu x (by simp [hx]))
  have hg := bothR_good ha hb
  rw [rowR, List.map_cons, rowS, okS_good hg, some_iff hg, bothR_e ha hb]
  simp only [decide_eq_true_eq]
  split
  ·refine ⟨by rw [List.map_cons, bothR_e ha hb, i1], fun x hx => ?_⟩
   rcases List.mem_cons.1 hx with rfl | hx
   ·exact hg
   ·exact i2 x hx
  ·exact ⟨i1, i2⟩
theorem meetRS_e : ∀ (s u : List Sp), (∀ x ∈ s, x.good) → (∀ x ∈ u, x.good) → (meetRS s u).map Sp.e = meetR (s.map Sp.e) (u.map Sp.e) ∧ ∀ x ∈ meetRS s u, x.good
 | [], _, _, _ => by simp [meetRS, meetR]
 | a :: s, u, hs, hu => by
  obtain ⟨i1, i2⟩ := rowR_e (hs a (by simp)) u hu
  obtain ⟨j1, j2⟩ := meetRS_e s u (fun x hx => hs x (by simp [hx])) hu
  rw [meetRS, List.map_append, i1, j1, List.map_cons, meetR]
  refine ⟨rfl, fun x hx => ?_⟩
  rcases List.mem_append.1 hx with hx | hx
  ·exact i2 x hx
  ·exact j2 x hx
theorem meet_same {s u : List Sp} (hs : validP none s = true) (hu : validP none u = true) : meetRS s u = meetS s u := by
 obtain ⟨h1, h2⟩ := valid_iff.1 hs
 obtain ⟨h3, h4⟩ := valid_iff.1 hu
 obtain ⟨e, g⟩ := meetS_e s u h1 h3
 obtain ⟨e', g'⟩ := meetRS_e s u h1 h3
 exact goods_inj g' g (by rw [e, e', meet_eq h2 h4])
def meetL (s u : List Sp) : List Sp := if validP none s && validP none u then meetS s u else []
def otherL (s : List Sp) : List Sp := if validP none s then otherS zF true false s else []
def joinL (s u : List Sp) : List Sp := if validP none s && validP none u then otherL (meetL (otherL s) (otherL u)) else []
end Go.Proofs.YtepfpgnjpkcgmaaGreat
