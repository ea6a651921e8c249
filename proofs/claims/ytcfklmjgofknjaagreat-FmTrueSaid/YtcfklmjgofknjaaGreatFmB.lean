/-
  Bounds of small sums: the plain law. No conditions beyond the lemmas' own hypotheses.
-/
import Derived.Test.YtcfklmjgofknjaaGreatFmA
set_option linter.unusedSimpArgs false
set_option linter.unnecessarySimpa false
set_option linter.unusedVariables false
set_option linter.constructorNameAsVariable false

/-
 law23: small sums: what Two leaves of two bounds in two terms.
-/
namespace Go.Proofs.YtcfklmjgofknjaaGreat
open Go Go.Abs Go.Limbs
set_option maxRecDepth 20000
theorem sum_small {lk : Int → Fr} {l : Int → Rat} {m j : Nat} (hmj : m + j ≤ 64) : ∀ {ps : QP} {s : Rat} {k : Nat}, SmP m ps → (∀ x ∈ ps, lk x.2 = ofQ (l x.2) ∧ Sm j (l x.2)) → Sm k s → k + ps.length * (m + j + 1) ≤ 64 → sumF lk (ps.map ofA) (ofQ s) = (ofQ (sumQ l ps s), 0)
 | [], s, k, _, _, _, _ => rfl
 | x :: r, s, k, h, hl, hs, hk => by
  obtain ⟨e1, e2⟩ := hl x (by simp)
  have hx := h x (by simp)
  have hlen : (x :: r).length * (m + j + 1) = r.length * (m + j + 1) + (m + j + 1) := by rw [List.length_cons, Nat.succ_mul]
  rw [hlen] at hk
  have hm : mulF (ofA x).c (lk (ofA x).t) = (ofQ (x.1 * l x.2), 0) := by
   show mulF (ofQ x.1) (lk x.2) = _
   rw [e1, mulF_num (Sm_mono hx (by omega)) (Sm_mono e2 (by omega)), heldQ_ok (Sm_mono (Sm_mul hx e2) hmj)]
  have hsum : Sm (k + (m + j) + 1) (s + x.1 * l x.2) := Sm_add hs (Sm_mul hx e2)
  have ha : addF (ofQ s) (ofQ (x.1 * l x.2)) = (ofQ (s + x.1 * l x.2), 0) := by
   rw [addF_num (Sm_mono hs (by omega)) (Sm_mono (Sm_mul hx e2) hmj), heldQ_ok (Sm_mono hsum (by omega))]
  rw [List.map_cons, sumF_step hm, if_pos rfl, ha, if_pos rfl]
  exact sum_small hmj (fun y hy => h y (by simp [hy])) (fun y hy => hl y (by simp [hy])) hsum (by omega)
theorem value_small {lk : Int → Fr} {l : Int → Rat} {m j : Nat} {P : Qo} (hP : P.Is m) (hm : m ≤ 64) (hl : ∀ x ∈ P.ps, lk x.2 = ofQ (l x.2) ∧ Sm j (l x.2)) (hj : m + j ≤ 64) (hk : m + P.ps.length * (m + j + 1) ≤ 64) : valuePo lk (ofP P) = (ofQ (valQ l P), 0) := by
 unfold valuePo
 have ha : ((ofP P).ps.all fun x => (lk x.t).ok) = true := by
  refine List.all_eq_true.2 fun x hx => ?_
  obtain ⟨y, hy, rfl⟩ := List.mem_map.1 hx
  obtain ⟨e1, e2⟩ := hl y hy
  show (lk y.2).ok = true
  rw [e1]
  exact ok_ofQ (Sm_mono e2 (by omega))
 rw [ok_ofP (hP.mono hm), ha]
 exact sum_small hj hP.sp hl hP.sc hk
theorem valQ_sm {l : Int → Rat} {m j : Nat} : ∀ {ps : QP} {s : Rat} {k : Nat}, SmP m ps → (∀ x ∈ ps, Sm j (l x.2)) → Sm k s → Sm (k + ps.length * (m + j + 1)) (sumQ l ps s)
 | [], s, k, _, _, hs => by simpa [sumQ] using hs
 | x :: r, s, k, h, hl, hs => by
  have := valQ_sm (l := l) (ps := r) (fun y hy => h y (by simp [hy])) (fun y hy => hl y (by simp [hy])) (Sm_add hs (Sm_mul (h x (by simp)) (hl x (by simp))))
  refine Sm_mono this ?_
  rw [List.length_cons, Nat.succ_mul]
  omega
theorem holds_small {lk : Int → Fr} {l : Int → Rat} {m j : Nat} {k : Int} {P : Qo} (hs : isSum k = true) (ho : (atQ k P).ok = true) (hP : P.Is m) (hm : m ≤ 64) (hl : ∀ x ∈ P.ps, lk x.2 = ofQ (l x.2) ∧ Sm j (l x.2)) (hj : m + j ≤ 64) (hk : m + P.ps.length * (m + j + 1) ≤ 64) : holdsAt lk (atQ k P) = (soF k (cmpQ (valQ l P) 0), 0) := by
 unfold holdsAt
 rw [show (atQ k P).k = k from rfl, hs, ho, show (atQ k P).p = ofP P from rfl, value_small hP hm hl hj hk]
 have hv : Sm 64 (valQ l P) := Sm_mono (valQ_sm hP.sp (fun x hx => (hl x hx).2) hP.sc) hk
 simp only [Bool.and_self, if_true, decide_true, Bool.true_and]
 rw [signF_num hv]
theorem ltOf_at {k : Int} {N : Qo} (hk : k = 1 ∨ k = 2) (ho : (atQ k N).ok = true) (hN : N.Is 64) (v : Int) : ltOf ⟨atQ k N, false⟩ v = (⟨ofP N, decide (k = 2), false⟩, !decide (coefQ v N.ps = 0)) := by
 have h3 : ¬ (k = 3 ∧ false = false) := fun h => by omega
 unfold ltOf
 dsimp only
 rw [if_pos ho, show (atQ k N).k = k from rfl, if_neg h3, if_pos hk, if_neg (by simp), show (atQ k N).p = ofP N from rfl, (coef_view hN v).1]
theorem ltOf_eq {N : Qo} (ho : (atQ 3 N).ok = true) (hN : N.Is 64) (v : Int) : ltOf ⟨atQ 3 N, false⟩ v = (⟨ofP N, false, true⟩, !decide (coefQ v N.ps = 0)) := by
 unfold ltOf
 dsimp only
 rw [if_pos ho, show (atQ 3 N).k = 3 from rfl, if_pos ⟨rfl, rfl⟩, show (atQ 3 N).p = ofP N from rfl, (coef_view hN v).1]
theorem twoC_small {a b : Lt} {P Q : Qo} {kd v : Int} (hk : kd = 1 ∨ kd = 2) (hP : P.Is 3) (hQ : Q.Is 3) :
  ∃ R : Qo, R = addQ (scaleQ Q (-coefQ v P.ps)) (scaleQ P (coefQ v Q.ps)) ∧ R.Is 13 ∧ coefQ v R.ps = 0 ∧ twoC a b (ofP P) (ofP Q) kd v = ([opp a, opp b, ⟨atQ kd (normQ kd R), false⟩], 0) := by
 have coef4 : ∀ {X : Qo}, X.Is 3 → Sm 3 (coefQ v X.ps) := fun {X} hX => by
  have : ∀ {ps : QP}, SmP 3 ps → Sm 3 (coefQ v ps) := by
   intro ps
   induction ps with
   | nil => intro _; exact Sm_mono (show Sm 1 (0 : Rat) by decide +kernel) (by decide)
   | cons x r ih =>
    intro h
    unfold coefQ
    split
    ·exact h x (by simp)
    ·exact ih fun y hy => h y (by simp [hy])
  exact this hX.sp
 have s1 := Sm_neg (coef4 hP)
 have s2 := coef4 hQ
 have e1 := scalePo_of hQ s1 (by decide)
 have e2 := scalePo_of hP s2 (by decide)
 have i1 := scaleQ_is hQ s1
 have i2 := scaleQ_is hP s2
 have e3 := addPo_of i1 i2 (by decide)
 have i3 := addQ_is i1 i2
 have hk3 : k3 kd = kd := by rcases hk with rfl | rfl <;> rfl
 have e4 := make_of (k := kd) i3 (by decide) (by rw [hk3]; rcases hk with rfl | rfl <;> rfl)
 rw [hk3] at e4
 refine ⟨_, rfl, i3, ?_, ?_⟩
 ·rw [coef_add v i1 i2, coef_scale, coef_scale]
  grind
 ·unfold twoC
  rw [coef_of (hP.mono (by decide)), coef_of (hQ.mono (by decide)), negF_num (Sm_mono (coef4 hP) (by decide)), e1, e2, if_pos rfl, if_pos rfl, e3, if_pos rfl, e4, if_pos rfl]
theorem neg_is {P : Qo} {k : Nat} (hP : P.Is k) : (scaleQ P (-1)).Is k := by
 have e : ∀ q : Rat, q * -1 = -q := fun q => by grind
 refine ⟨by unfold scaleQ; rw [if_neg (by decide)]; exact okQ_mul (by decide) hP.ok, fun x hx => ?_, ?_⟩
 ·unfold scaleQ at hx
  rw [if_neg (by decide)] at hx
  obtain ⟨y, hy, rfl⟩ := List.mem_map.1 hx
  show Sm k (y.1 * -1)
  rw [e]
  exact Sm_neg (hP.sp y hy)
 ·show Sm k (P.c * -1)
  rw [e]
  exact Sm_neg hP.sc
def lq (c d k : Int) : Qo := ⟨(if c = 0 then [] else [((c : Rat), 3)]) ++ (if d = 0 then [] else [((d : Rat), 4)]), (k : Rat)⟩
theorem sm_small {z : Int} (h : -1000000 ≤ z ∧ z ≤ 1000000) : Sm 1 (z : Rat) := by
 refine Sm_int ?_ (by decide)
 refine len_le ?_
 rw [Nat.pow_one]
 have : (1000001 : Nat) ≤ B := by decide
 omega
theorem lq_is {c d k : Int} (hc : -1000 ≤ c ∧ c ≤ 1000) (hd : -1000 ≤ d ∧ d ≤ 1000) (hk : -1000 ≤ k ∧ k ≤ 1000) : (lq c d k).Is 1 := by
 have q0 : ∀ {z : Int}, ¬ z = 0 → (z : Rat) ≠ 0 := fun h => by simpa using h
 unfold lq
 refine ⟨?_, ?_, sm_small (by omega)⟩
 ·by_cases h1 : c = 0 <;> by_cases h2 : d = 0 <;> simp [h1, h2, okQ]
 ·intro x hx
  by_cases h1 : c = 0 <;> by_cases h2 : d = 0 <;> simp [h1, h2] at hx
  ·rw [hx]; exact sm_small (by omega)
  ·rw [hx]; exact sm_small (by omega)
  ·rcases hx with rfl | rfl
   ·exact sm_small (by omega)
   ·exact sm_small (by omega)
def In34 (P : Qo) : Prop := ∀ x ∈ P.ps, x.2 = 3 ∨ x.2 = 4
theorem lq_in (c d k : Int) : In34 (lq c d k) := by
 intro x hx
 unfold lq at hx
 by_cases h1 : c = 0 <;> by_cases h2 : d = 0 <;> simp [h1, h2] at hx
 ·right; rw [hx]
 ·left; rw [hx]
 ·rcases hx with rfl | rfl
  ·left; rfl
  ·right; rfl
theorem in_scale {P : Qo} (h : In34 P) (k : Rat) : In34 (scaleQ P k) := by
 intro x hx
 unfold scaleQ at hx
 split at hx
 ·cases hx
 ·obtain ⟨y, hy, rfl⟩ := List.mem_map.1 hx
  exact h y hy
theorem in_norm {P : Qo} (h : In34 P) (k : Int) : In34 (normQ k P) := by
 unfold normQ
 split
 ·intro x hx; cases hx
 ·exact in_scale h _
theorem mem_merge {l r : QP} {x : Rat × Int} (h : x ∈ mergeQ l r) : (∃ y ∈ l, y.2 = x.2) ∨ (∃ y ∈ r, y.2 = x.2) := by
 induction l, r using mergeQ.induct with
 | case1 r => rw [mergeQ_nil] at h; exact .inr ⟨x, h, rfl⟩
 | case2 y l => rw [mergeQ_nil2] at h; exact .inl ⟨x, h, rfl⟩
 | case3 y l z r hlt ih =>
  rw [mergeQ_lt hlt] at h
  rcases List.mem_cons.1 h with rfl | h
  ·exact .inl ⟨x, by simp, rfl⟩
  ·rcases ih h with ⟨w, hw, e⟩ | e
   ·exact .inl ⟨w, by simp [hw], e⟩
   ·exact .inr e
 | case4 y l z r h1 hlt ih =>
  rw [mergeQ_gt hlt] at h
  rcases List.mem_cons.1 h with rfl | h
  ·exact .inr ⟨x, by simp, rfl⟩
  ·rcases ih h with e | ⟨w, hw, e⟩
   ·exact .inl e
   ·exact .inr ⟨w, by simp [hw], e⟩
 | case5 y l z r h1 h2 h3 ih =>
  have he : y.2 = z.2 := by omega
  rw [mergeQ_eq he, if_pos h3] at h
  rcases ih h with ⟨w, hw, e⟩ | ⟨w, hw, e⟩
  ·exact .inl ⟨w, by simp [hw], e⟩
  ·exact .inr ⟨w, by simp [hw], e⟩
 | case6 y l z r h1 h2 h3 ih =>
  have he : y.2 = z.2 := by omega
  rw [mergeQ_eq he, if_neg h3] at h
  rcases List.mem_cons.1 h with rfl | h
  ·exact .inl ⟨y, by simp, rfl⟩
  ·rcases ih h with ⟨w, hw, e⟩ | ⟨w, hw, e⟩
   ·exact .inl ⟨w, by simp [hw], e⟩
   ·exact .inr ⟨w, by simp [hw], e⟩
theorem in_add {P Q : Qo} (hP : In34 P) (hQ : In34 Q) : In34 (addQ P Q) := by
 intro x hx
 rcases mem_merge hx with ⟨y, hy, e⟩ | ⟨y, hy, e⟩
 ·rw [← e]; exact hP y hy
 ·rw [← e]; exact hQ y hy
theorem only4 {P : Qo} {k : Nat} (h : In34 P) (hP : P.Is k) (h0 : coefQ 3 P.ps = 0) : P.ps = [] ∨ ∃ x, P.ps = [(x, 4)] := by
 obtain ⟨ps, c⟩ := P
 obtain ⟨ok, -, -⟩ := hP
 dsimp only at ok h0 ⊢
 cases ps with
 | nil => exact .inl rfl
 | cons x r =>
  right
  have hx := h x (by simp)
  have hne : x.2 ≠ 3 := fun e => by
   unfold coefQ at h0
   rw [if_pos e] at h0
   exact ok.2.1 h0
  have h4 : x.2 = 4 := by rcases hx with e | e; exact absurd e hne; exact e
  cases r with
  | nil => exact ⟨x.1, by rw [← h4]⟩
  | cons y t =>
   have := ok.2.2.1
   have hy := h y (by simp)
   omega
theorem len34 {P : Qo} {k : Nat} (h : In34 P) (hP : P.Is k) : P.ps.length ≤ 2 := by
 obtain ⟨ps, c⟩ := P
 obtain ⟨ok, -, -⟩ := hP
 match ps, ok, h with
 | [], _, _ => simp
 | [x], _, _ => simp
 | [x, y], _, _ => simp
 | x :: y :: z :: r, ok, h =>
  have h1 := ok.2.2.1
  have h2 := ok.2.2.2.2.1
  have hx := h x (by simp)
  have hy := h y (by simp)
  have hz := h z (by simp)
  omega
theorem val_lq (l : Int → Rat) (c d k : Int) : valQ l (lq c d k) = (c : Rat) * l 3 + (d : Rat) * l 4 + (k : Rat) := by
 unfold valQ lq
 by_cases h1 : c = 0 <;> by_cases h2 : d = 0 <;> simp only [h1, h2, if_true, if_false, List.nil_append, List.cons_append, sumQ] <;> grind
theorem coef_lq (c d k : Int) : coefQ 3 (lq c d k).ps = (c : Rat) := by
 unfold lq
 by_cases h1 : c = 0 <;> by_cases h2 : d = 0 <;> simp [h1, h2, coefQ]
theorem norm_lq {kd c d k : Int} (hk : kd = 1 ∨ kd = 2) (h0 : c ≠ 0) : normQ kd (lq c d k) = scaleQ (lq c d k) (1 / ((c.natAbs : Int) : Rat)) := by
 have e : (lq c d k).ps = ((c : Rat), 3) :: (if d = 0 then [] else [((d : Rat), 4)]) := by unfold lq; simp [h0]
 unfold normQ
 rw [e]
 dsimp only
 have hz : szQ kd (c : Rat) = ((c.natAbs : Int) : Rat) := by
  unfold szQ
  have hi : (c : Rat) < 0 ↔ c < 0 := by simpa using Rat.intCast_lt_intCast (a := c) (b := 0)
  by_cases h : c < 0
  ·rw [if_pos ⟨hi.2 h, by omega⟩, show ((c.natAbs : Int)) = -c by omega, Rat.intCast_neg]
  ·rw [if_neg (fun e => h (hi.1 e.1)), show ((c.natAbs : Int)) = c by omega]
 rw [hz]
end Go.Proofs.YtcfklmjgofknjaaGreat

/-
 law23: the laws of two small bounds, of an equation, of a hole, of a bound: the plain laws.
-/
namespace Go.Proofs.YtcfklmjgofknjaaGreat
open Go Go.Abs Go.Limbs
set_option maxRecDepth 20000
theorem cmp_int (z : Int) : cmpQ (z : Rat) 0 = if z < 0 then -1 else if z = 0 then 0 else 1 := by
 have h1 : (z : Rat) < 0 ↔ z < 0 := by simpa using Rat.intCast_lt_intCast (a := z) (b := 0)
 have h2 : 0 < (z : Rat) ↔ 0 < z := by simpa using Rat.intCast_lt_intCast (a := 0) (b := z)
 by_cases a : z < 0
 ·rw [if_pos a, cmpQ_lt (h1.2 a)]
 ·rw [if_neg a]
  by_cases b : z = 0
  ·rw [if_pos b, b]
   exact cmpQ_eq 0
  ·rw [if_neg b, cmpQ_gt (h2.2 (by omega))]
theorem cmp_div {x : Rat} {z n : Int} (hn : 0 < n) (h : x * (n : Rat) = (z : Rat)) : cmpQ x 0 = cmpQ (z : Rat) 0 := by
 have hp : 0 < (n : Rat) := by simpa using Rat.intCast_lt_intCast (a := 0) (b := n) |>.2 hn
 rw [← cmpQ_pos hp x 0, h, Rat.zero_mul]
theorem so_int (k z : Int) : soF k (cmpQ (z : Rat) 0) = if k = 1 then decide (z ≤ 0) else if k = 2 then decide (z < 0) else decide (z = 0) := by
 rw [cmp_int]
 unfold soF
 split
 ·refine decide_eq_decide.2 ?_
  split
  ·omega
  ·split <;> omega
 ·split
  ·refine decide_eq_decide.2 ?_
   split
   ·omega
   ·split <;> omega
  ·refine decide_eq_decide.2 ?_
   split
   ·omega
   ·split <;> omega
def leA (c d k : Int) (st : Bool) : At := (makeAt (kdOf st) (ofP (lq c d k))).1
structure LeV (c d k : Int) (st : Bool) (A : Qo) : Prop where
 eq : leA c d k st = atQ (kdOf st) A
 is : A.Is 3
 can : Can (kdOf st) A
 ok : (atQ (kdOf st) A).ok = true
 inn : In34 A
 co : coefQ 3 A.ps * ((c.natAbs : Int) : Rat) = (c : Rat)
 val : ∀ l : Int → Rat, valQ l A * ((c.natAbs : Int) : Rat) = (c : Rat) * l 3 + (d : Rat) * l 4 + (k : Rat)
theorem abs_ne {c : Int} (h0 : c ≠ 0) : ((c.natAbs : Int) : Rat) ≠ 0 := by
 have : (c.natAbs : Int) ≠ 0 := by omega
 simpa using this
theorem kd_sum (st : Bool) : isSum (kdOf st) = true := by cases st <;> rfl
theorem kd_k3 (st : Bool) : k3 (kdOf st) = kdOf st := by cases st <;> rfl
theorem le_view {c d k : Int} (st : Bool) (h0 : c ≠ 0) (hc : -1000 ≤ c ∧ c ≤ 1000) (hd : -1000 ≤ d ∧ d ≤ 1000) (hk : -1000 ≤ k ∧ k ≤ 1000) : ∃ A, LeV c d k st A := by
 have hi := lq_is hc hd hk
 have hn := norm_lq (d := d) (k := k) (kd_is st) h0
 have hab := abs_ne h0
 have h1 : (1 : Rat) / ((c.natAbs : Int) : Rat) ≠ 0 := by grind
 have is3 := norm_is (k := kdOf st) hi (by decide)
 have hcan := norm_can (k := kdOf st) hi
 refine ⟨normQ (kdOf st) (lq c d k), ?_, is3, hcan, can_ok (kd_sum st) hcan (is3.mono (by decide)), in_norm (lq_in c d k) _, ?_, fun l => ?_⟩
 ·unfold leA
  rw [make_of hi (by decide) (by rw [kd_k3]; exact kd_sum st), kd_k3]
 ·rw [hn, coef_scale, coef_lq]
  grind
 ·rw [hn, val_scale l h1, val_lq]
  grind
theorem lt_low {c d k : Int} {st : Bool} {A : Qo} (h : LeV c d k st A) (h0 : c ≠ 0) : ltOf ⟨leA c d k st, false⟩ 3 = (⟨ofP A, st, false⟩, true) ∧ lowP (ofP A) 3 = decide (c < 0) ∧ coefQ 3 A.ps ≠ 0 := by
 have hne : coefQ 3 A.ps ≠ 0 := fun e => by
  have := h.co
  rw [e, Rat.zero_mul] at this
  exact h0 (by simpa using this.symm)
 refine ⟨?_, ?_, hne⟩
 ·rw [h.eq, ltOf_at (kd_is st) h.ok (h.is.mono (by decide)), decide_eq_false hne]
  cases st <;> rfl
 ·rw [(coef_view (h.is.mono (by decide)) 3).2.1]
  have h1 : cmpQ (coefQ 3 A.ps) 0 = cmpQ (c : Rat) 0 := cmp_div (by omega) h.co
  have h2 : (c : Rat) < 0 ↔ c < 0 := by simpa using Rat.intCast_lt_intCast (a := c) (b := 0)
  rw [decide_eq_decide, ← cmpQ_neg_iff, h1, cmpQ_neg_iff, h2]
theorem left_holds {P Q R : Qo} {kd : Int} {lk : Int → Fr} {y : Int} (hkd : kd = 1 ∨ kd = 2) (hR : R.Is 13) (hc : coefQ 3 R.ps = 0) (hin : In34 R) (hy : -1000 ≤ y ∧ y ≤ 1000) (hl : lk 4 = ofQ (y : Rat)) :
  (coefPo (ofP (normQ kd R)) 3).n = [] ∧ ∀ l : Int → Rat, l 4 = (y : Rat) → holdsAt lk (atQ kd (normQ kd R)) = (soF kd (cmpQ (valQ l R) 0), 0) := by
 have is := norm_is (k := kd) hR (by decide)
 have hcan := norm_can (k := kd) hR
 have hs : isSum kd = true := by rcases hkd with rfl | rfl <;> rfl
 have hok := can_ok hs hcan (is.mono (by decide))
 have hcn := coef_norm 3 kd hR hc
 refine ⟨?_, fun l hl4 => ?_⟩
 ·rw [coef_of (is.mono (by decide)), hcn]
  exact ofQ_n.2 rfl
 ·have hone := only4 (in_norm hin kd) is hcn
  have hlen : (normQ kd R).ps.length ≤ 1 := by
   rcases hone with e | ⟨x, e⟩ <;> rw [e] <;> simp
  have hlk : ∀ x ∈ (normQ kd R).ps, lk x.2 = ofQ (l x.2) ∧ Sm 1 (l x.2) := fun x hx => by
   have e4 : x.2 = 4 := by
    rcases hone with e | ⟨z, e⟩
    ·rw [e] at hx; cases hx
    ·rw [e] at hx; rw [List.mem_singleton.1 hx]
   rw [e4, hl4, hl]
   exact ⟨rfl, sm_small (by omega)⟩
  have hb : (normQ kd R).ps.length * (2 * 13 + 1 + 1 + 1) ≤ 1 * (2 * 13 + 1 + 1 + 1) := Nat.mul_le_mul_right _ hlen
  have hv := holds_small (l := l) (j := 1) hs hok is (by decide) hlk (by decide) (by omega)
  have e : cmpQ (valQ l (normQ kd R)) 0 = cmpQ (valQ l R) 0 := by
   obtain ⟨s1, s2⟩ := norm_sign l kd hR
   have s2 := s2 (by omega)
   rcases rat_tri (valQ l R) 0 with g | g | g
   ·rw [cmpQ_lt g, cmpQ_lt (s2.2 g)]
   ·rw [g, s1.2 g]
   ·rw [cmpQ_gt g]
    rcases rat_tri (valQ l (normQ kd R)) 0 with u | u | u
    ·exact absurd (s2.1 u) (lt_asymm g)
    ·exact absurd (s1.1 u) (fun e => by rw [e] at g; exact lt_irr _ g)
    ·exact cmpQ_gt u
  rw [hv, e]
theorem false_law {c d k m n o y : Int} {st too : Bool} {lk : Int → Fr} (hc : 1 ≤ c ∧ c ≤ 20) (hm : 1 ≤ m ∧ m ≤ 20) (hd : -20 ≤ d ∧ d ≤ 20) (hn : -20 ≤ n ∧ n ≤ 20) (hk : -100 ≤ k ∧ k ≤ 100) (ho : -100 ≤ o ∧ o ≤ 100) (hy : -50 ≤ y ∧ y ≤ 50) (hl : lk 4 = ofQ (y : Rat)) :
  ∃ x : At, twoL ⟨leA c d k st, false⟩ ⟨leA (-m) n o too, false⟩ 3 = ([⟨leA c d k st, true⟩, ⟨leA (-m) n o too, true⟩, ⟨x, false⟩], 0) ∧ (coefPo x.p 3).n = [] ∧ (holdsAt lk x).2 = 0 ∧
   (holdsAt lk x).1 = !(decide ((n * y + o) * c > -(d * y + k) * m) || (decide ((n * y + o) * c = -(d * y + k) * m) && (st || too))) := by
 obtain ⟨A, hA⟩ := le_view (c := c) (d := d) (k := k) st (by omega) (by omega) (by omega) (by omega)
 obtain ⟨B', hB⟩ := le_view (c := -m) (d := n) (k := o) too (by omega) (by omega) (by omega) (by omega)
 obtain ⟨a1, a2, a3⟩ := lt_low hA (by omega)
 obtain ⟨b1, b2, b3⟩ := lt_low hB (by omega)
 rw [decide_eq_false (by omega)] at a2
 rw [decide_eq_true (by omega)] at b2
 have hsd : sidesL ⟨leA c d k st, false⟩ ⟨leA (-m) n o too, false⟩ 3 = (⟨ofP B', too, false⟩, ⟨ofP A, st, false⟩, false, true) := by
  unfold sidesL
  rw [a1, b1, if_pos ⟨rfl, rfl⟩]
  unfold firstL
  dsimp only
  rw [a2, b2]
  simp only [Bool.and_self, Bool.not_false, Bool.not_true, Bool.and_false, Bool.or_false, Bool.false_eq_true, if_false]
  rw [turn_one rfl, turn_one rfl]
  dsimp only
  rw [a2, b2]
  rfl
 obtain ⟨R, hR, r1, r2, r3⟩ := twoC_small (a := ⟨leA c d k st, false⟩) (b := ⟨leA (-m) n o too, false⟩) (v := 3) (kd_is (too || st)) hB.is hA.is
 have hin : In34 R := by rw [hR]; exact in_add (in_scale hA.inn _) (in_scale hB.inn _)
 obtain ⟨g1, g2⟩ := left_holds (P := A) (Q := B') (kd_is (too || st)) r1 r2 hin (by omega) hl
 have g2 := g2 (fun i => if i = 4 then (y : Rat) else 0) (if_pos rfl)
 refine ⟨atQ (kdOf (too || st)) (normQ (kdOf (too || st)) R), ?_, g1, by rw [g2], ?_⟩
 ·unfold twoL
  rw [hsd, if_pos rfl]
  exact r3
 ·rw [g2]
  dsimp only
  have va := hA.val (fun i => if i = 4 then (y : Rat) else 0)
  have vb := hB.val (fun i => if i = 4 then (y : Rat) else 0)
  have ca := hA.co
  have cb := hB.co
  have e1 : ((c.natAbs : Int) : Rat) = (c : Rat) := by rw [show (c.natAbs : Int) = c by omega]
  have e2 : (((-m).natAbs : Int) : Rat) = (m : Rat) := by rw [show ((-m).natAbs : Int) = m by omega]
  have c0 : (c : Rat) ≠ 0 := by
   have : c ≠ 0 := by omega
   simpa using this
  have m0 : (m : Rat) ≠ 0 := by
   have : m ≠ 0 := by omega
   simpa using this
  rw [e1] at va ca
  rw [e2] at vb cb
  rw [Rat.intCast_neg] at vb cb
  simp only [if_true, show ¬ (3 : Int) = 4 by decide, if_false] at va vb
  have ca' : coefQ 3 A.ps = 1 := by grind
  have cb' : coefQ 3 B'.ps = -1 := by grind
  have hv : valQ (fun i => if i = 4 then (y : Rat) else 0) R = valQ (fun i => if i = 4 then (y : Rat) else 0) A + valQ (fun i => if i = 4 then (y : Rat) else 0) B' := by
   rw [hR, val_add, val_scale _ (by rw [cb']; decide), val_scale _ (by rw [ca']; decide), ca', cb']
   grind
  have hz : valQ (fun i => if i = 4 then (y : Rat) else 0) R * ((c * m : Int) : Rat) = (((d * y + k) * m + (n * y + o) * c : Int) : Rat) := by
   rw [hv]
   simp only [Rat.intCast_add, Rat.intCast_mul]
   grind
  rw [cmp_div (Int.mul_pos (by omega) (by omega)) hz, so_int]
  have en : -(d * y + k) * m = -((d * y + k) * m) := Int.neg_mul _ _
  rw [en]
  generalize (d * y + k) * m = X
  generalize (n * y + o) * c = Y
  cases st <;> cases too <;> simp [kdOf] <;> (rw [Bool.eq_iff_iff]; simp) <;> omega
end Go.Proofs.YtcfklmjgofknjaaGreat

/-
 law23: an equation and a bound; a bound at its own value and above it; a hole: the plain laws.
-/
namespace Go.Proofs.YtcfklmjgofknjaaGreat
open Go Go.Abs Go.Limbs
set_option maxRecDepth 20000
theorem norm_one {kd d k : Int} (s : Int) (hs : s = 1 ∨ (s = -1 ∧ kd ≠ 3)) : normQ kd (lq s d k) = lq s d k := by
 have e : (lq s d k).ps = ((s : Rat), 3) :: (if d = 0 then [] else [((d : Rat), 4)]) := by
  unfold lq
  rcases hs with rfl | ⟨rfl, -⟩ <;> simp
 have hz : szQ kd (s : Rat) = 1 := by
  unfold szQ
  rcases hs with rfl | ⟨rfl, h⟩
  ·rw [if_neg (fun e => absurd e.1 (by decide))]; rfl
  ·rw [if_pos ⟨by decide, h⟩]; decide +kernel
 unfold normQ
 rw [e]
 dsimp only
 rw [hz, show (1 : Rat) / 1 = 1 by decide +kernel, scaleQ_one]
def eqA (d k : Int) : At := (makeAt 3 (ofP (lq 1 d k))).1
theorem eq_view {d k : Int} (hd : -1000 ≤ d ∧ d ≤ 1000) (hk : -1000 ≤ k ∧ k ≤ 1000) : makeAt 3 (ofP (lq 1 d k)) = (atQ 3 (lq 1 d k), false, 0) ∧ (lq 1 d k).Is 1 ∧ (atQ 3 (lq 1 d k)).ok = true := by
 have hi := lq_is (c := 1) (by decide) hd hk
 have e := make_of (k := 3) hi (by decide) rfl
 rw [show k3 3 = 3 from rfl, norm_one 1 (.inl rfl)] at e
 have hcan := norm_can (k := 3) hi
 rw [norm_one 1 (.inl rfl)] at hcan
 exact ⟨e, hi, can_ok rfl hcan (hi.mono (by decide))⟩
theorem lt_eq {d k : Int} (hd : -1000 ≤ d ∧ d ≤ 1000) (hk : -1000 ≤ k ∧ k ≤ 1000) : ltOf ⟨eqA d k, false⟩ 3 = (⟨ofP (lq 1 d k), false, true⟩, true) ∧ lowP (ofP (lq 1 d k)) 3 = false := by
 obtain ⟨e1, e2, e3⟩ := eq_view hd hk
 have hc : coefQ 3 (lq 1 d k).ps = 1 := coef_lq 1 d k
 refine ⟨?_, ?_⟩
 ·unfold eqA
  rw [e1, ltOf_eq e3 (e2.mono (by decide)), hc]
  rfl
 ·rw [(coef_view (e2.mono (by decide)) 3).2.1, hc]
  decide +kernel
theorem equals_law {d k c n o y : Int} {st : Bool} {lk : Int → Fr} (h0 : c ≠ 0) (hc : -10 ≤ c ∧ c ≤ 10) (hd : -20 ≤ d ∧ d ≤ 20) (hk : -50 ≤ k ∧ k ≤ 50) (hn : -20 ≤ n ∧ n ≤ 20) (ho : -50 ≤ o ∧ o ≤ 50) (hy : -50 ≤ y ∧ y ≤ 50) (hl : lk 4 = ofQ (y : Rat)) :
  ∃ x : At, twoL ⟨eqA d k, false⟩ ⟨leA c n o st, false⟩ 3 = ([⟨eqA d k, true⟩, ⟨leA c n o st, true⟩, ⟨x, false⟩], 0) ∧ twoL ⟨leA c n o st, false⟩ ⟨eqA d k, false⟩ 3 = ([⟨leA c n o st, true⟩, ⟨eqA d k, true⟩, ⟨x, false⟩], 0) ∧
   (holdsAt lk x).2 = 0 ∧ (holdsAt lk x).1 = (decide (c * (-d * y - k) + n * y + o < 0) || (decide (c * (-d * y - k) + n * y + o = 0) && !st)) ∧ boundL ⟨eqA d k, false⟩ 3 = (false, false, 1) := by
 obtain ⟨e1, e2, e3⟩ := eq_view (d := d) (k := k) (by omega) (by omega)
 obtain ⟨a1, a2⟩ := lt_eq (d := d) (k := k) (by omega) (by omega)
 obtain ⟨B', hB⟩ := le_view (c := c) (d := n) (k := o) st h0 (by omega) (by omega) (by omega)
 obtain ⟨b1, b2, b3⟩ := lt_low hB h0
 have hca : coefQ 3 (lq 1 d k).ps = 1 := coef_lq 1 d k
 have hbd : boundL ⟨eqA d k, false⟩ 3 = (false, false, 1) := by
  unfold boundL
  rw [a1, if_neg (fun h => by cases h.2)]
 have vb := hB.val (fun i => if i = 4 then (y : Rat) else 0)
 have cb := hB.co
 have va := val_lq (fun i => if i = 4 then (y : Rat) else 0) 1 d k
 simp only [if_true, show ¬ (3 : Int) = 4 by decide, if_false] at va vb
 obtain ⟨V, hV⟩ : ∃ V, V = c * (-d * y - k) + n * y + o := ⟨_, rfl⟩
 rw [← hV]
 have fin : ∀ {R : Qo} {P Q : Qo}, R.Is 13 → coefQ 3 R.ps = 0 → In34 R → valQ (fun i => if i = 4 then (y : Rat) else 0) R * ((c.natAbs : Int) : Rat) = (V : Rat) →
   (holdsAt lk (atQ (kdOf st) (normQ (kdOf st) R))).2 = 0 ∧ (holdsAt lk (atQ (kdOf st) (normQ (kdOf st) R))).1 = (decide (V < 0) || (decide (V = 0) && !st)) := by
  intro R P Q r1 r2 hin hz
  obtain ⟨-, g2⟩ := left_holds (P := P) (Q := Q) (kd_is st) r1 r2 hin (by omega) hl
  have g2 := g2 (fun i => if i = 4 then (y : Rat) else 0) (if_pos rfl)
  rw [g2]
  refine ⟨rfl, ?_⟩
  dsimp only
  rw [cmp_div (by omega) hz, so_int]
  cases st <;> simp [kdOf] <;> (rw [Bool.eq_iff_iff]; simp) <;> omega
 rcases Int.lt_or_gt_of_ne h0 with hneg | hpos
 · -- the other one is from below
  rw [decide_eq_true hneg] at b2
  have hs1 : sidesL ⟨eqA d k, false⟩ ⟨leA c n o st, false⟩ 3 = (⟨ofP B', st, false⟩, ⟨ofP (lq 1 d k), false, true⟩, false, true) := by
   unfold sidesL
   rw [a1, b1, if_pos ⟨rfl, rfl⟩]
   unfold firstL turnL
   dsimp only
   rw [a2, b2]
   simp
  have hs2 : sidesL ⟨leA c n o st, false⟩ ⟨eqA d k, false⟩ 3 = (⟨ofP B', st, false⟩, ⟨ofP (lq 1 d k), false, true⟩, true, true) := by
   unfold sidesL
   rw [a1, b1, if_pos ⟨rfl, rfl⟩]
   unfold firstL turnL
   dsimp only
   rw [a2, b2]
   simp
  have key : ∀ a b : Lt, ∃ R : Qo, R = addQ (scaleQ (lq 1 d k) (-coefQ 3 B'.ps)) (scaleQ B' (coefQ 3 (lq 1 d k).ps)) ∧ R.Is 13 ∧ coefQ 3 R.ps = 0 ∧ twoC a b (ofP B') (ofP (lq 1 d k)) (kdOf st) 3 = ([opp a, opp b, ⟨atQ (kdOf st) (normQ (kdOf st) R), false⟩], 0) :=
   fun a b => twoC_small (kd_is st) hB.is (e2.mono (by decide))
  obtain ⟨R, hR, r1, r2, r3⟩ := key ⟨eqA d k, false⟩ ⟨leA c n o st, false⟩
  obtain ⟨R', hR', -, -, r4⟩ := key ⟨leA c n o st, false⟩ ⟨eqA d k, false⟩
  rw [← hR] at hR'
  rw [hR'] at r4
  have hin : In34 R := by rw [hR]; exact in_add (in_scale (lq_in 1 d k) _) (in_scale hB.inn _)
  have eab : ((c.natAbs : Int) : Rat) = -(c : Rat) := by rw [show (c.natAbs : Int) = -c by omega, Rat.intCast_neg]
  have c0 : (c : Rat) ≠ 0 := by simpa using h0
  rw [eab] at vb cb fin
  have cb' : coefQ 3 B'.ps = -1 := by grind
  have hz : valQ (fun i => if i = 4 then (y : Rat) else 0) R * -(c : Rat) = (V : Rat) := by
   rw [hR, val_add, val_scale _ (by rw [cb']; decide), val_scale _ (by rw [hca]; decide), cb', hca, va, hV]
   simp only [Rat.intCast_add, Rat.intCast_mul, Rat.intCast_sub, Rat.intCast_neg, Rat.intCast_one]
   grind
  obtain ⟨f1, f2⟩ := fin (P := R) (Q := R) r1 r2 hin hz
  refine ⟨atQ (kdOf st) (normQ (kdOf st) R), ?_, ?_, f1, f2, hbd⟩
  ·unfold twoL
   rw [hs1, if_pos rfl]
   dsimp only
   rw [Bool.or_false]
   exact r3
  ·unfold twoL
   rw [hs2, if_pos rfl]
   dsimp only
   rw [Bool.or_false]
   exact r4
 ·rw [decide_eq_false (by omega)] at b2
  have hm := (scale_m1 (e2.mono (by decide : 1 ≤ 64))).1
  have hs1 : sidesL ⟨eqA d k, false⟩ ⟨leA c n o st, false⟩ 3 = (⟨ofP (scaleQ (lq 1 d k) (-1)), false, true⟩, ⟨ofP B', st, false⟩, true, true) := by
   unfold sidesL
   rw [a1, b1, if_pos ⟨rfl, rfl⟩]
   unfold firstL turnL
   dsimp only
   rw [a2, b2, hm]
   simp
  have hs2 : sidesL ⟨leA c n o st, false⟩ ⟨eqA d k, false⟩ 3 = (⟨ofP (scaleQ (lq 1 d k) (-1)), false, true⟩, ⟨ofP B', st, false⟩, false, true) := by
   unfold sidesL
   rw [a1, b1, if_pos ⟨rfl, rfl⟩]
   unfold firstL turnL
   dsimp only
   rw [a2, b2, hm]
   simp
  have key : ∀ a b : Lt, ∃ R : Qo, R = addQ (scaleQ B' (-coefQ 3 (scaleQ (lq 1 d k) (-1)).ps)) (scaleQ (scaleQ (lq 1 d k) (-1)) (coefQ 3 B'.ps)) ∧ R.Is 13 ∧ coefQ 3 R.ps = 0 ∧ twoC a b (ofP (scaleQ (lq 1 d k) (-1))) (ofP B') (kdOf st) 3 = ([opp a, opp b, ⟨atQ (kdOf st) (normQ (kdOf st) R), false⟩], 0) :=
   fun a b => twoC_small (kd_is st) ((neg_is e2).mono (by decide)) hB.is
  obtain ⟨R, hR, r1, r2, r3⟩ := key ⟨eqA d k, false⟩ ⟨leA c n o st, false⟩
  obtain ⟨R', hR', -, -, r4⟩ := key ⟨leA c n o st, false⟩ ⟨eqA d k, false⟩
  rw [← hR] at hR'
  rw [hR'] at r4
  have hin : In34 R := by rw [hR]; exact in_add (in_scale hB.inn _) (in_scale (in_scale (lq_in 1 d k) _) _)
  have eab : ((c.natAbs : Int) : Rat) = (c : Rat) := by rw [show (c.natAbs : Int) = c by omega]
  have c0 : (c : Rat) ≠ 0 := by simpa using h0
  rw [eab] at vb cb fin
  have cb' : coefQ 3 B'.ps = 1 := by grind
  have hcm : coefQ 3 (scaleQ (lq 1 d k) (-1)).ps = -1 := by rw [coef_scale, hca]; decide +kernel
  have hz : valQ (fun i => if i = 4 then (y : Rat) else 0) R * (c : Rat) = (V : Rat) := by
   rw [hR, val_add, val_scale _ (by rw [hcm]; decide), val_scale _ (by rw [cb']; decide), val_opp, cb', hcm, va, hV]
   simp only [Rat.intCast_add, Rat.intCast_mul, Rat.intCast_sub, Rat.intCast_neg, Rat.intCast_one]
   grind
  obtain ⟨f1, f2⟩ := fin (P := R) (Q := R) r1 r2 hin hz
  refine ⟨atQ (kdOf st) (normQ (kdOf st) R), ?_, ?_, f1, f2, hbd⟩
  ·unfold twoL
   rw [hs1, if_pos rfl]
   dsimp only
   rw [Bool.false_or]
   exact r3
  ·unfold twoL
   rw [hs2, if_pos rfl]
   dsimp only
   rw [Bool.false_or]
   exact r4
theorem le_at {c d k y : Int} {st : Bool} {X : Rat} {z : Int} {lk : Int → Fr} (h0 : c ≠ 0) (hc : -10 ≤ c ∧ c ≤ 10) (hd : -20 ≤ d ∧ d ≤ 20) (hk : -50 ≤ k ∧ k ≤ 50) (hy : -50 ≤ y ∧ y ≤ 50) (hl4 : lk 4 = ofQ (y : Rat)) (hl3 : lk 3 = ofQ X) (hX : Sm 3 X) (hz : (c : Rat) * X + (d : Rat) * (y : Rat) + (k : Rat) = (z : Rat)) :
  holdsAt lk (leA c d k st) = (decide (z < 0) || (decide (z = 0) && !st), 0) := by
 obtain ⟨A, hA⟩ := le_view (c := c) (d := d) (k := k) st h0 (by omega) (by omega) (by omega)
 have hlen := len34 hA.inn hA.is
 have hlk : ∀ x ∈ A.ps, lk x.2 = ofQ ((fun i => if i = 4 then (y : Rat) else X) x.2) ∧ Sm 3 ((fun i => if i = 4 then (y : Rat) else X) x.2) := fun x hx => by
  rcases hA.inn x hx with e | e
  ·rw [e]; exact ⟨hl3, hX⟩
  ·rw [e]; exact ⟨hl4, Sm_mono (sm_small (by omega)) (by decide)⟩
 have hb : A.ps.length * (3 + 3 + 1) ≤ 2 * (3 + 3 + 1) := Nat.mul_le_mul_right _ hlen
 rw [hA.eq, holds_small (l := fun i => if i = 4 then (y : Rat) else X) (j := 3) (kd_sum st) hA.ok hA.is (by decide) hlk (by decide) (by omega)]
 have hv := hA.val (fun i => if i = 4 then (y : Rat) else X)
 simp only [if_true, show ¬ (3 : Int) = 4 by decide, if_false] at hv
 rw [hz] at hv
 rw [cmp_div (by omega) hv, so_int]
 have : (if kdOf st = 1 then decide (z ≤ 0) else if kdOf st = 2 then decide (z < 0) else decide (z = 0)) = (decide (z < 0) || (decide (z = 0) && !st)) := by
  cases st <;> simp [kdOf] <;> (rw [Bool.eq_iff_iff]; simp) <;> omega
 rw [this]
theorem bounds_law {c d k y : Int} {st nt : Bool} {lk lk' : Int → Fr} (h0 : c ≠ 0) (hc : -10 ≤ c ∧ c ≤ 10) (hd : -20 ≤ d ∧ d ≤ 20) (hk : -50 ≤ k ∧ k ≤ 50) (hy : -50 ≤ y ∧ y ≤ 50)
  (hl4 : lk 4 = ofQ (y : Rat)) (hl3 : lk 3 = ofQ (Rat.divInt (-(d * y + k)) c)) (hl4' : lk' 4 = ofQ (y : Rat)) (hl3' : lk' 3 = ofQ (Rat.divInt (-(d * y + k)) c + 1)) :
  boundL ⟨leA c d k st, nt⟩ 3 = (decide (c < 0) != nt, st != nt, 0) ∧ holdsAt lk (leA c d k st) = (!st, 0) ∧ holdsAt lk' (leA c d k st) = (decide (c < 0), 0) := by
 have c0 : (c : Rat) ≠ 0 := by simpa using h0
 have hx : Rat.divInt (-(d * y + k)) c * (c : Rat) = ((-(d * y + k) : Int) : Rat) := by
  rw [Rat.divInt_eq_div, Rat.div_mul_cancel c0]
 have hdy : -1000 ≤ d * y ∧ d * y ≤ 1000 := by
  have h1 : (d * y).natAbs ≤ 20 * 50 := by rw [Int.natAbs_mul]; exact Nat.mul_le_mul (by omega) (by omega)
  omega
 have sX : Sm 1 (Rat.divInt (-(d * y + k)) c) := by
  have hB : (1000001 : Nat) ≤ B := by decide
  have l1 : ∀ {w : Int}, -1000000 ≤ w ∧ w ≤ 1000000 → len w.natAbs ≤ 1 := fun h => len_le (by rw [Nat.pow_one]; omega)
  exact Sm_divInt (l1 (by omega)) (l1 (by omega)) (by decide)
 refine ⟨?_, ?_, ?_⟩
 ·obtain ⟨A, hA⟩ := le_view (c := c) (d := d) (k := k) st h0 (by omega) (by omega) (by omega)
  obtain ⟨a1, a2, a3⟩ := lt_low hA h0
  cases nt with
  | false =>
   unfold boundL
   rw [a1, if_pos ⟨rfl, rfl⟩]
   dsimp only
   rw [a2]
   simp
  | true =>
   have hn := not_of (kd_is st) hA.can hA.is (by decide)
   have hk3 : ¬ (kdOf st = 3 ∧ true = false) := fun h => by cases h.2
   have i1 := neg_is hA.is
   obtain ⟨v1, v2, -, -⟩ := coef_view (i1.mono (by decide : 3 ≤ 64)) 3
   rw [coef_scale] at v1 v2
   obtain ⟨-, w2, -, -⟩ := coef_view (hA.is.mono (by decide : 3 ≤ 64)) 3
   rw [a2] at w2
   have hne : ¬ coefQ 3 A.ps * -1 = 0 := by grind
   have hlow : decide (coefQ 3 A.ps * -1 < 0) = !decide (c < 0) := by
    rw [w2]
    have e : coefQ 3 A.ps * -1 < 0 ↔ ¬ coefQ 3 A.ps < 0 := by grind
    rw [← decide_not]
    exact decide_eq_decide.2 e
   have hlt : ltOf ⟨leA c d k st, true⟩ 3 = (⟨ofP (scaleQ A (-1)), !st, false⟩, true) := by
    unfold ltOf
    dsimp only
    rw [hA.eq, if_pos hA.ok, show (atQ (kdOf st) A).k = kdOf st from rfl, if_neg hk3, if_pos (kd_is st), if_pos rfl, hn, if_pos rfl]
    dsimp only
    rw [show (atQ (3 - kdOf st) (scaleQ A (-1))).p = ofP (scaleQ A (-1)) from rfl, v1, decide_eq_false hne]
    cases st <;> rfl
   unfold boundL
   rw [hlt, if_pos ⟨rfl, rfl⟩]
   dsimp only
   rw [v2, hlow]
   simp
 ·rw [le_at (z := 0) h0 hc hd hk hy hl4 hl3 (Sm_mono sX (by decide)) (by
   have : ((-(d * y + k) : Int) : Rat) = -((d : Rat) * (y : Rat) + (k : Rat)) := by simp only [Rat.intCast_neg, Rat.intCast_add, Rat.intCast_mul]
   rw [this] at hx
   rw [Rat.intCast_zero]
   grind)]
  simp
 ·rw [le_at (z := c) h0 hc hd hk hy hl4' hl3' (Sm_mono (Sm_add sX sm1) (by decide)) (by
   have : ((-(d * y + k) : Int) : Rat) = -((d : Rat) * (y : Rat) + (k : Rat)) := by simp only [Rat.intCast_neg, Rat.intCast_add, Rat.intCast_mul]
   rw [this] at hx
   grind)]
  rw [decide_eq_false h0]
  simp
theorem solve_small {P : Qo} {v : Int} (hP : P.Is 1) (hc : coefQ v P.ps = 1 ∨ coefQ v P.ps = -1) : solvePo (ofP P) v = (ofP (solveQ P v), 0) ∧ (solveQ P v).Is 2 ∧ coefQ v (solveQ P v).ps = 0 := by
 have hc0 : coefQ v P.ps ≠ 0 := by rcases hc with e | e <;> rw [e] <;> decide
 have hs : Sm 1 (-1 / coefQ v P.ps) := by rcases hc with e | e <;> rw [e] <;> decide +kernel
 have hq : quoF (ofQ (-1)) (ofQ (coefQ v P.ps)) = (ofQ (-1 / coefQ v P.ps), 0) := by
  rw [quoF_num Sm_m1 (coef_sm v (hP.mono (by decide)).sp) hc0, heldQ_ok (Sm_mono hs (by decide))]
 have hf : findF v (ofP P).ps = some (ofQ (coefQ v P.ps)) := by
  rcases find_of v P.ps with ⟨_, e⟩ | e
  ·exact absurd e hc0
  ·exact e
 refine ⟨?_, scaleQ_is (without_is hP v) hs, ?_⟩
 ·unfold solvePo
  rw [hf]
  dsimp only
  rw [ok_ofP (hP.mono (by decide)), if_pos rfl, hq, if_pos rfl, without_of, scalePo_of (without_is hP v) hs (by decide)]
  rfl
 ·unfold solveQ
  rw [coef_scale, show (withoutQ P v).ps = dropQ v P.ps from rfl, coef_drop hP.ok, Rat.zero_mul]
theorem less_small {P Q : Qo} (hP : P.Is 2) (hQ : Q.Is 2) (h1 : coefQ 3 P.ps = 0) (h2 : coefQ 3 Q.ps = 0) : ∃ R : Qo, R = addQ P (scaleQ Q (-1)) ∧ R.Is 13 ∧ coefQ 3 R.ps = 0 ∧ lessC (ofP P) (ofP Q) = (atQ 2 (normQ 2 R), 0) := by
 have e3 := addPo_of hP (neg_is hQ) (by decide)
 have i3 := addQ_is hP (neg_is hQ)
 have e4 := make_of (k := 2) i3 (by decide) rfl
 refine ⟨_, rfl, i3.mono (by decide), ?_, ?_⟩
 ·rw [coef_add 3 hP (neg_is hQ), coef_scale, h1, h2]
  decide +kernel
 ·unfold lessC
  rw [(scale_m1 (hQ.mono (by decide))).1, if_pos rfl, e3, if_pos rfl, e4]
  rfl
theorem in_solve {P : Qo} (h : In34 P) (v : Int) : In34 (solveQ P v) := in_scale (fun x hx => h x (dropQ_mem hx)) _
theorem hole_law {c d y : Int} {lk : Int → Fr} (hc : -20 ≤ c ∧ c ≤ 20) (hd : -20 ≤ d ∧ d ≤ 20) (hy : -50 ≤ y ∧ y ≤ 50) (hl : lk 4 = ofQ (y : Rat)) :
  makeAt 4 (ofP (lq 1 (-1) (-c))) = (atQ 3 (lq 1 (-1) (-c)), true, 0) ∧ ∃ u w : At, threeL ⟨leA (-1) 1 c false, false⟩ ⟨leA 1 (-2) (-d) false, false⟩ ⟨atQ 3 (lq 1 (-1) (-c)), true⟩ 3 = ([⟨leA (-1) 1 c false, true⟩, ⟨leA 1 (-2) (-d) false, true⟩, ⟨atQ 3 (lq 1 (-1) (-c)), false⟩, ⟨u, false⟩, ⟨w, false⟩], 0) ∧
   (coefPo u.p 3).n = [] ∧ (coefPo w.p 3).n = [] ∧ holdsAt lk u = (false, 0) ∧ holdsAt lk w = (decide (y + c < 2 * y + d), 0) := by
 have iA := lq_is (c := -1) (d := 1) (k := c) (by decide) (by decide) (by omega)
 have iB := lq_is (c := 1) (d := -2) (k := -d) (by decide) (by decide) (by omega)
 have iW := lq_is (c := 1) (d := -1) (k := -c) (by decide) (by decide) (by omega)
 have oW := (eq_view (d := -1) (k := -c) (by decide) (by omega)).2.2
 have xA : coefQ 3 (lq (-1) 1 c).ps = -1 := coef_lq _ _ _
 have xB : coefQ 3 (lq 1 (-2) (-d)).ps = 1 := coef_lq _ _ _
 have xW : coefQ 3 (lq 1 (-1) (-c)).ps = 1 := coef_lq _ _ _
 have eA : leA (-1) 1 c false = atQ 1 (lq (-1) 1 c) := by
  unfold leA
  rw [make_of iA (by decide) rfl, show k3 (kdOf false) = 1 from rfl, norm_one (-1) (.inr ⟨rfl, by decide⟩)]
 have eB : leA 1 (-2) (-d) false = atQ 1 (lq 1 (-2) (-d)) := by
  unfold leA
  rw [make_of iB (by decide) rfl, show k3 (kdOf false) = 1 from rfl, norm_one 1 (.inl rfl)]
 have kA := norm_can (k := 1) iA
 rw [norm_one (-1) (.inr ⟨rfl, by decide⟩)] at kA
 have kB := norm_can (k := 1) iB
 rw [norm_one 1 (.inl rfl)] at kB
 have oA := can_ok rfl kA (iA.mono (by decide))
 have oB := can_ok rfl kB (iB.mono (by decide))
 have hm : makeAt 4 (ofP (lq 1 (-1) (-c))) = (atQ 3 (lq 1 (-1) (-c)), true, 0) := by
  rw [make_of iW (by decide) rfl, show k3 4 = 3 from rfl, norm_one 1 (.inl rfl)]
  rfl
 refine ⟨hm, ?_⟩
 have l1 := ltOf_at (.inl rfl) oA (iA.mono (by decide)) 3
 have l2 := ltOf_at (.inl rfl) oB (iB.mono (by decide)) 3
 rw [xA, show (!decide ((-1 : Rat) = 0)) = true by decide +kernel] at l1
 rw [xB, show (!decide ((1 : Rat) = 0)) = true by decide +kernel] at l2
 have w1 : lowP (ofP (lq (-1) 1 c)) 3 = true := by rw [(coef_view (iA.mono (by decide)) 3).2.1, xA]; decide +kernel
 have w2 : lowP (ofP (lq 1 (-2) (-d))) 3 = false := by rw [(coef_view (iB.mono (by decide)) 3).2.1, xB]; decide +kernel
 have w3 : hasC (ofP (lq 1 (-1) (-c))) 3 = true := by rw [(coef_view (iW.mono (by decide)) 3).1, xW]; decide +kernel
 have hsd : sidesL ⟨leA (-1) 1 c false, false⟩ ⟨leA 1 (-2) (-d) false, false⟩ 3 = (⟨ofP (lq (-1) 1 c), false, false⟩, ⟨ofP (lq 1 (-2) (-d)), false, false⟩, true, true) := by
  unfold sidesL
  rw [eA, eB, l1, l2]
  unfold firstL turnL
  dsimp only
  rw [w1, w2]
  simp
 obtain ⟨a1, a2, a3⟩ := solve_small iA (.inr xA)
 obtain ⟨b1, b2, b3⟩ := solve_small iB (.inl xB)
 obtain ⟨c1, c2, c3⟩ := solve_small iW (.inl xW)
 obtain ⟨R, hR, r1, r2, r3⟩ := less_small a2 c2 a3 c3
 obtain ⟨S, hS, s1, s2, s3⟩ := less_small c2 b2 c3 b3
 have inR : In34 R := by rw [hR]; exact in_add (in_solve (lq_in _ _ _) 3) (in_scale (in_solve (lq_in _ _ _) 3) _)
 have inS : In34 S := by rw [hS]; exact in_add (in_solve (lq_in _ _ _) 3) (in_scale (in_solve (lq_in _ _ _) 3) _)
 obtain ⟨g1, g2⟩ := left_holds (P := R) (Q := R) (.inr rfl) r1 r2 inR (by omega) hl
 obtain ⟨h1, h2⟩ := left_holds (P := S) (Q := S) (.inr rfl) s1 s2 inS (by omega) hl
 have g2 := g2 (fun i => if i = 4 then (y : Rat) else 0) (if_pos rfl)
 have h2 := h2 (fun i => if i = 4 then (y : Rat) else 0) (if_pos rfl)
 have va := val_lq (fun i => if i = 4 then (y : Rat) else 0) (-1) 1 c
 have vb := val_lq (fun i => if i = 4 then (y : Rat) else 0) 1 (-2) (-d)
 have vw := val_lq (fun i => if i = 4 then (y : Rat) else 0) 1 (-1) (-c)
 rw [val_solve _ iA (by rw [xA]; decide), xA] at va
 rw [val_solve _ iB (by rw [xB]; decide), xB] at vb
 rw [val_solve _ iW (by rw [xW]; decide), xW] at vw
 simp only [if_true, show ¬ (3 : Int) = 4 by decide, if_false, Rat.intCast_neg, Rat.intCast_one] at va vb vw
 have vR : valQ (fun i => if i = 4 then (y : Rat) else 0) R = ((0 : Int) : Rat) := by
  rw [hR, val_add, val_opp, Rat.intCast_zero]
  grind
 have vS : valQ (fun i => if i = 4 then (y : Rat) else 0) S = ((c - d - y : Int) : Rat) := by
  rw [hS, val_add, val_opp, Rat.intCast_sub, Rat.intCast_sub]
  grind
 refine ⟨atQ 2 (normQ 2 R), atQ 2 (normQ 2 S), ?_, g1, h1, ?_, ?_⟩
 ·unfold threeL
  rw [hsd, if_pos ⟨rfl, rfl, rfl, rfl, oW, w3⟩]
  unfold threeC
  dsimp only
  rw [show (atQ 3 (lq 1 (-1) (-c))).p = ofP (lq 1 (-1) (-c)) from rfl, a1, b1, c1, if_pos rfl, if_pos rfl, if_pos rfl]
  dsimp only
  rw [r3, s3, if_pos rfl, if_pos rfl]
  rfl
 ·rw [g2, vR, so_int]
  rfl
 ·rw [h2, vS, so_int]
  have : (if (2 : Int) = 1 then decide (c - d - y ≤ 0) else if (2 : Int) = 2 then decide (c - d - y < 0) else decide (c - d - y = 0)) = decide (y + c < 2 * y + d) := by
   rw [if_neg (by decide), if_pos rfl]
   exact decide_eq_decide.2 (by omega)
  rw [this]
end Go.Proofs.YtcfklmjgofknjaaGreat
