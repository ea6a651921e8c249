/-
  FeasPicks and FeasSays answer true on all values. No conditions.
-/
import Derived.Test.YtepfpgnjpkcgmaaGreatFeasG
import Derived.Test.YtepfpgnjpkcgmaaGreatAtomG
set_option linter.unusedSimpArgs false
set_option linter.unnecessarySimpa false
set_option linter.unusedVariables false
set_option linter.constructorNameAsVariable false

/-
 law22: what is picked is in the set; a value is in what an atom leaves just where the atom is so: the plain laws.
-/
namespace Go.Proofs.YtepfpgnjpkcgmaaGreat
open Go Go.Abs Go.Limbs
set_option maxRecDepth 20000
theorem inside_err (x : Sp) : (insideS x).2 = 0 ∨ (insideS x).2 = 4 := by
 have key : ∀ q : Rat, (heldQ q).2 = 0 ∨ (heldQ q).2 = 4 := fun q => by
  unfold heldQ; split
  ·exact .inl rfl
  ·exact .inr rfl
 unfold insideS
 split
 ·exact .inl rfl
 split
 ·exact .inl rfl
 split
 ·exact .inl rfl
 split
 ·exact key _
 split
 ·exact key _
 ·exact key _
theorem inside_in {x : Sp} (g : x.good) (s : someS x = true) (h : (insideS x).2 = 0) : (insideS x).1.ok = true ∧ inS x (insideS x).1 = true := by
 rw [some_iff g] at s
 have s := of_decide_eq_true s
 have key : (insideS x).1.ok = true ∧ (x.e.l ≤ .at (insideS x).1.q false ∧ .at (insideS x).1.q false < x.e.h) := by
  obtain ⟨lo, hi, nl, nh, o1, o2⟩ := x
  obtain ⟨g1, g2⟩ := g
  dsimp only at g1 g2
  cases nl <;> cases nh
  ·obtain ⟨p, hp, rfl⟩ := Fr.ok_of (bound_ok g1)
   obtain ⟨q, hq, rfl⟩ := Fr.ok_of (bound_ok g2)
   simp only [Sp.e, lowE, highE, Bool.false_eq_true, if_false, q_ofQ] at s ⊢
   cases o1
   ·show (ofQ p).ok = true ∧ (EC.at p false ≤ .at (ofQ p).q false ∧ EC.at (ofQ p).q false < .at q (!o2))
    rw [q_ofQ]
    exact ⟨ok_ofQ hp, at_le.2 (.inr ⟨rfl, .inl rfl⟩), s⟩
   ·cases o2
    ·show (ofQ q).ok = true ∧ (EC.at p true ≤ .at (ofQ q).q false ∧ EC.at (ofQ q).q false < .at q true)
     rw [q_ofQ]
     rcases at_lt.1 s with e | ⟨_, e, _⟩
     ·exact ⟨ok_ofQ hq, at_le.2 (.inl e), at_lt.2 (.inr ⟨rfl, rfl, rfl⟩)⟩
     ·cases e
    ·have e : insideS ⟨ofQ p, ofQ q, false, false, true, true⟩ = heldQ (betweenQ p q) := by
      show heldQ (betweenQ (ofQ p).q (ofQ q).q) = _
      rw [q_ofQ, q_ofQ]
     rw [e] at h ⊢
     obtain ⟨e1, e2⟩ := heldQ_zero h
     rw [e1, q_ofQ]
     have hlt : p < q := by
      rcases at_lt.1 s with e | ⟨_, e, _⟩
      ·exact e
      ·cases e
     obtain ⟨b1, b2⟩ := between_in hlt
     exact ⟨ok_ofQ e2, at_le.2 (.inl b1), at_lt.2 (.inl b2)⟩
  ·obtain ⟨p, hp, rfl⟩ := Fr.ok_of (bound_ok g1)
   simp only [Sp.e, lowE, highE, Bool.false_eq_true, if_false, if_true, q_ofQ] at s ⊢
   cases o1
   ·show (ofQ p).ok = true ∧ (EC.at p false ≤ .at (ofQ p).q false ∧ EC.at (ofQ p).q false < .hi)
    rw [q_ofQ]
    exact ⟨ok_ofQ hp, at_le.2 (.inr ⟨rfl, .inl rfl⟩), at_lt_hi⟩
   ·have e : insideS ⟨ofQ p, hi, false, true, true, o2⟩ = heldQ ((p.floor + 1 : Int) : Rat) := by
     show heldQ (((ofQ p).q.floor + 1 : Int) : Rat) = _
     rw [q_ofQ]
    rw [e] at h ⊢
    obtain ⟨e1, e2⟩ := heldQ_zero h
    rw [e1, q_ofQ]
    exact ⟨ok_ofQ e2, at_le.2 (.inl (Rat.lt_floor_add_one p)), at_lt_hi⟩
  ·obtain ⟨q, hq, rfl⟩ := Fr.ok_of (bound_ok g2)
   simp only [Sp.e, lowE, highE, Bool.false_eq_true, if_false, if_true, q_ofQ] at s ⊢
   cases o2
   ·show (ofQ q).ok = true ∧ (EC.lo ≤ .at (ofQ q).q false ∧ EC.at (ofQ q).q false < .at q true)
    rw [q_ofQ]
    exact ⟨ok_ofQ hq, EC.lo_le _, at_lt.2 (.inr ⟨rfl, rfl, rfl⟩)⟩
   ·have e : insideS ⟨lo, ofQ q, true, false, o1, true⟩ = heldQ ((-((-q).floor + 1) : Int) : Rat) := by
     show heldQ ((-((-(ofQ q).q).floor + 1) : Int) : Rat) = _
     rw [q_ofQ]
    rw [e] at h ⊢
    obtain ⟨e1, e2⟩ := heldQ_zero h
    rw [e1, q_ofQ]
    exact ⟨ok_ofQ e2, EC.lo_le _, at_lt.2 (.inl (below_lt q))⟩
  ·show (ofQ 0).ok = true ∧ (EC.lo ≤ .at (ofQ 0).q false ∧ EC.at (ofQ 0).q false < .hi)
   exact ⟨ok_ofQ (by decide +kernel), EC.lo_le _, at_lt_hi⟩
 refine ⟨key.1, ?_⟩
 rw [in_iff g key.1]
 exact decide_eq_true key.2
def fq (lk : Int → Fr) (i : Int) : Rat := if (lk i).ok = true then (lk i).q else 0
theorem fq_sm (lk : Int → Fr) (i : Int) : Sm 64 (fq lk i) := by
 unfold fq
 split
 ·rename_i h
  obtain ⟨q, hq, e⟩ := Fr.ok_of h
  rw [e, q_ofQ]; exact hq
 ·decide +kernel
theorem fq_of {lk : Int → Fr} {i : Int} (h : (lk i).ok = true) : lk i = ofQ (fq lk i) := by
 unfold fq
 rw [if_pos h]
 obtain ⟨q, hq, e⟩ := Fr.ok_of h
 rw [e, q_ofQ]
theorem sumF_congr {lk lk' : Int → Fr} : ∀ {ps : List Pa} {s : Fr}, (∀ x ∈ ps, lk x.t = lk' x.t) → sumF lk ps s = sumF lk' ps s
 | [], _, _ => rfl
 | x :: r, s, h => by
  have e := h x (by simp)
  have ih := fun s => sumF_congr (lk := lk) (lk' := lk') (ps := r) (s := s) fun y hy => h y (by simp [hy])
  rw [sumF_step rfl, sumF_step rfl, e]
  simp only [ih]
theorem value_q {lk : Int → Fr} {P : Qo} (hP : P.Is 64) (h : (valuePo lk (ofP P)).2 = 0) : valuePo lk (ofP P) = (ofQ (valQ (fq lk) P), 0) ∧ Sm 64 (valQ (fq lk) P) ∧ ∀ y ∈ P.ps, (lk y.2).ok = true := by
 have hall : ((ofP P).ps.all fun x => (lk x.t).ok) = true := by
  cases e : (ofP P).ps.all fun x => (lk x.t).ok with
  | true => rfl
  | false =>
   unfold valuePo at h
   rw [e, Bool.and_false] at h
   cases h
 have hk : ∀ x ∈ (ofP P).ps, (lk x.t).ok = true := fun x hx => List.all_eq_true.1 hall x hx
 have e : valuePo lk (ofP P) = valuePo (lkQ (fq lk)) (ofP P) := by
  have ha : ((ofP P).ps.all fun x => (lkQ (fq lk) x.t).ok) = true := List.all_eq_true.2 fun x _ => ok_ofQ (fq_sm lk _)
  unfold valuePo
  rw [hall, ha, sumF_congr (lk' := lkQ (fq lk)) fun x hx => fq_of (hk x hx)]
 rw [e] at h ⊢
 obtain ⟨a, b⟩ := value_of (fq_sm lk) hP h
 exact ⟨a, b, fun y hy => hk (ofA y) (List.mem_map.2 ⟨y, hy, rfl⟩)⟩
def coefQ (t : Int) : QP → Rat
 | [] => 0
 | x :: r => if x.2 = t then x.1 else coefQ t r
def dropQ (t : Int) : QP → QP
 | [] => []
 | x :: r => if x.2 = t then r else x :: dropQ t r
theorem drop_of (t : Int) : ∀ ps : QP, dropF t (ps.map ofA) = (dropQ t ps).map ofA
 | [] => rfl
 | x :: r => by
  show (if x.2 = t then r.map ofA else ofA x :: dropF t (r.map ofA)) = _
  unfold dropQ
  rw [drop_of t r]
  split <;> rfl
theorem find_of (t : Int) : ∀ ps : QP, (findF t (ps.map ofA) = none ∧ coefQ t ps = 0) ∨ findF t (ps.map ofA) = some (ofQ (coefQ t ps))
 | [] => .inl ⟨rfl, rfl⟩
 | x :: r => by
  show ((if x.2 = t then some (ofQ x.1) else findF t (r.map ofA)) = none ∧ _) ∨ (if x.2 = t then some (ofQ x.1) else findF t (r.map ofA)) = _
  unfold coefQ
  split
  ·exact .inr rfl
  ·exact find_of t r
theorem coef_of {P : Qo} (hP : P.Is 64) (t : Int) : coefPo (ofP P) t = ofQ (coefQ t P.ps) := by
 unfold coefPo
 rw [ok_ofP hP]
 show (match findF t (P.ps.map ofA) with | some c => if True then c else ofQ 0 | none => ofQ 0) = _
 rcases find_of t P.ps with ⟨h, h'⟩ | h
 ·rw [h, h']
 ·rw [h]; rfl
theorem coef_sm (t : Int) : ∀ {ps : QP}, SmP 64 ps → Sm 64 (coefQ t ps)
 | [], _ => by show Sm 64 (0 : Rat); decide +kernel
 | x :: r, h => by
  unfold coefQ
  split
  ·exact h x (by simp)
  ·exact coef_sm t fun y hy => h y (by simp [hy])
theorem dropQ_mem {t : Int} : ∀ {ps : QP} {y : Rat × Int}, y ∈ dropQ t ps → y ∈ ps
 | x :: r, y, h => by
  unfold dropQ at h
  split at h
  ·exact List.mem_cons_of_mem _ h
  ·rcases List.mem_cons.1 h with rfl | h
   ·simp
   ·exact List.mem_cons_of_mem _ (dropQ_mem h)
theorem okQ_mono {a b : Int} : ∀ {ps : QP}, okQ b ps → a ≤ b → okQ a ps
 | [], _, _ => trivial
 | x :: r, h, hab => ⟨by have := h.1; omega, h.2.1, h.2.2⟩
theorem okQ_drop {t : Int} : ∀ {ps : QP} {a : Int}, okQ a ps → okQ a (dropQ t ps)
 | [], _, _ => trivial
 | x :: r, a, h => by
  unfold dropQ
  split
  ·exact okQ_mono h.2.2 (by have := h.1; omega)
  ·exact ⟨h.1, h.2.1, okQ_drop h.2.2⟩
def withoutQ (P : Qo) (t : Int) : Qo := ⟨dropQ t P.ps, P.c⟩
theorem without_of (P : Qo) (t : Int) : withoutPo (ofP P) t = ofP (withoutQ P t) := by
 unfold withoutPo ofP withoutQ
 rw [drop_of]
theorem without_is {P : Qo} {k : Nat} (h : P.Is k) (t : Int) : (withoutQ P t).Is k := ⟨okQ_drop h.ok, fun y hy => h.sp y (dropQ_mem hy), h.sc⟩
theorem sumQ_add (l : Int → Rat) : ∀ (ps : QP) (s u : Rat), sumQ l ps (s + u) = sumQ l ps s + u
 | [], s, u => rfl
 | x :: r, s, u => by
  show sumQ l r (s + u + x.1 * l x.2) = sumQ l r (s + x.1 * l x.2) + u
  rw [← sumQ_add l r, show s + u + x.1 * l x.2 = s + x.1 * l x.2 + u by grind]
theorem sumQ_congr {l l' : Int → Rat} : ∀ {ps : QP} {s : Rat}, (∀ x ∈ ps, l x.2 = l' x.2) → sumQ l ps s = sumQ l' ps s
 | [], _, _ => rfl
 | x :: r, s, h => by
  show sumQ l r (s + x.1 * l x.2) = sumQ l' r (s + x.1 * l' x.2)
  rw [h x (by simp), sumQ_congr fun y hy => h y (by simp [hy])]
theorem okQ_lt {t : Int} : ∀ {ps : QP}, okQ t ps → ∀ x ∈ ps, t < x.2
 | y :: r, h, x, hx => by
  rcases List.mem_cons.1 hx with rfl | hx
  ·exact h.1
  ·exact okQ_lt (okQ_mono h.2.2 (by have := h.1; omega)) x hx
theorem sum_split {f f' : Int → Rat} {t : Int} (hf : ∀ i, i ≠ t → f' i = f i) : ∀ {ps : QP} {a : Int} {s : Rat}, okQ a ps → sumQ f' ps s = sumQ f (dropQ t ps) s + coefQ t ps * f' t
 | [], _, s, _ => by show s = s + 0 * f' t; grind
 | x :: r, a, s, h => by
  show sumQ f' r (s + x.1 * f' x.2) = _
  unfold dropQ coefQ
  by_cases hx : x.2 = t
  ·rw [if_pos hx, if_pos hx, hx, sumQ_add]
   have e : sumQ f' r s = sumQ f r s := sumQ_congr fun y hy => hf _ fun e => by
    have := okQ_lt h.2.2 y hy
    omega
   rw [e]
  ·rw [if_neg hx, if_neg hx, sum_split hf h.2.2, hf _ hx]
   rfl
theorem val_split {f f' : Int → Rat} {t : Int} (hf : ∀ i, i ≠ t → f' i = f i) {P : Qo} {k : Nat} (h : P.Is k) : valQ f' P = valQ f (withoutQ P t) + coefQ t P.ps * f' t := sum_split hf h.ok
theorem cut_good {k : Int} {up : Bool} {b : Rat} (hb : Sm 64 b) : ∀ y ∈ cutS k up (ofQ b), y.good := by
 have ok := ok_ofQ hb
 intro y hy
 unfold cutS at hy
 split at hy
 ·unfold pointS at hy
  rw [if_pos ok, List.mem_singleton] at hy
  subst hy
  exact ⟨by simpa [boundS] using ok, by simpa [boundS] using ok⟩
 ·split at hy <;> (rw [List.mem_singleton] at hy; subst hy)
  ·exact ⟨by simp [boundS], by simpa [boundS] using ok⟩
  ·exact ⟨by simpa [boundS] using ok, by simp [boundS]⟩
theorem cut_valid {k : Int} {up : Bool} {b : Rat} (hb : Sm 64 b) : validP none (cutS k up (ofQ b)) = true := by
 refine valid_iff.2 ⟨cut_good hb, ?_⟩
 unfold cutS
 split
 ·unfold pointS
  rw [if_pos (ok_ofQ hb)]
  refine ⟨?_, trivial⟩
  simp only [Sp.e, lowE, highE, Bool.false_eq_true, if_false]
  exact at_lt.2 (.inr ⟨rfl, rfl, rfl⟩)
 ·split
  ·exact ⟨by simp [Sp.e, lowE, highE, lo_lt_at], trivial⟩
  ·exact ⟨by simp [Sp.e, lowE, highE, at_lt_hi], trivial⟩
theorem cut_mem {k : Int} {up : Bool} {b x : Rat} (hk : isSum k = true) (hb : Sm 64 b) : mem (.at x false) ((cutS k up (ofQ b)).map Sp.e) ↔ soF k (if up = true then cmpQ x b else -cmpQ x b) = true := by
 have h1 := cmpQ_neg_iff (p := x) (q := b)
 have h2 := cmpQ_zero_iff (p := x) (q := b)
 have h3 := cmpQ_pos_iff (p := x) (q := b)
 obtain ⟨c, hc⟩ : ∃ c, c = cmpQ x b := ⟨_, rfl⟩
 rw [← hc] at h1 h2 h3 ⊢
 have hk' : k = 1 ∨ k = 2 ∨ k = 3 := by unfold isSum at hk; simp at hk; omega
 unfold cutS
 by_cases h : k = 3
 ·subst h
  rw [if_pos rfl]
  unfold pointS
  rw [if_pos (ok_ofQ hb)]
  have e : soF 3 (if up = true then c else -c) = decide (c = 0) := by
   unfold soF
   cases up <;> simp
  rw [e]
  simp only [List.map_cons, List.map_nil, mem, Sp.e, lowE, highE, Bool.false_eq_true, if_false, q_ofQ, at_le, at_lt, Bool.not_false, decide_eq_true_eq, h2, or_false]
  constructor
  ·rintro ⟨a, b⟩
   rcases a with a | a
   ·rcases b with b | b
    ·exact absurd a (lt_asymm b)
    ·exact b.1
   ·exact a.1.symm
  ·intro e
   subst e
   simp
 ·rw [if_neg h]
  have hk2 : k = 1 ∨ k = 2 := by omega
  cases up
  ·simp only [Bool.false_eq_true, if_false, List.map_cons, List.map_nil, mem, Sp.e, lowE, highE, q_ofQ, at_le, at_lt_hi, and_true, or_false, if_true]
   rw [← h3]
   have : b = x ↔ c = 0 := by rw [h2]; exact eq_comm
   rw [this]
   rcases hk2 with rfl | rfl
   ·unfold soF; simp; omega
   ·unfold soF; simp
  ·simp only [if_true, List.map_cons, List.map_nil, mem, Sp.e, lowE, highE, Bool.false_eq_true, if_false, q_ofQ, at_lt, EC.lo_le, true_and, or_false]
   rw [← h1, ← h2]
   rcases hk2 with rfl | rfl
   ·unfold soF; simp; omega
   ·unfold soF; simp
theorem sign_split {c w x b : Rat} (hc : c ≠ 0) (hb : b = -w / c) : cmpQ (w + c * x) 0 = cmpQ x b * cmpQ c 0 := by
 have e1 : b * c = -w := by rw [hb, Rat.div_mul_cancel hc]
 have e2 : cmpQ (w + c * x) 0 = cmpQ (x * c) (b * c) := by
  rw [e1, ← cmpQ_add (x * c) (-w) w, show x * c + w = w + c * x by grind, show -w + w = 0 by grind]
 rw [e2, cmpQ_mul]
theorem ofAt_none {lk : Int → Fr} {x : At} {nt : Bool} {v : Int} (h : (ofAt lk x nt v).2 ≠ 0) : (ofAt lk x nt v).1 = [] := by
 unfold ofAt at h ⊢
 split
 ·rename_i h1
  rw [if_pos h1] at h
  split
  ·rename_i h2
   rw [if_pos h2] at h
   split
   ·rename_i h3
    rw [if_pos h3] at h
    exact absurd rfl h
   ·rfl
  ·rfl
 ·rfl
theorem says_so {l : List Bd} {x : At} {nt : Bool} {v : Int} {y : Fr} (hy : y.ok = true) (h1 : (ofAt (lookB l) x nt v).2 = 0) (h2 : (holdsAt (lookB (⟨v, y⟩ :: l)) x).2 = 0) :
  validP none (ofAt (lookB l) x nt v).1 = true ∧ hasS (ofAt (lookB l) x nt v).1 y = ((holdsAt (lookB (⟨v, y⟩ :: l)) x).1 != nt) := by
 obtain ⟨xq, hxq, rfl⟩ := Fr.ok_of hy
 unfold ofAt at h1 ⊢
 split at h1
 case isFalse => cases h1
 rename_i hc
 rw [if_pos hc]
 simp only [Bool.and_eq_true, decide_eq_true_eq] at hc
 obtain ⟨hok, hk, hsg⟩ := hc
 split at h1
 case isFalse => contradiction
 rename_i hv
 rw [if_pos hv]
 split at h1
 case isFalse => contradiction
 rename_i hq
 rw [if_pos hq]
 obtain ⟨P, hP, hp⟩ := po_of (ok_of_at hok hk)
 rw [hp] at hsg hv hq ⊢
 rw [coef_of hP] at hsg hq ⊢
 rw [without_of] at hv hq ⊢
 obtain ⟨hval, hvs, -⟩ := value_q (without_is hP v) hv
 have hcs := coef_sm v hP.sp
 rw [signF_num hcs] at hsg ⊢
 rw [hval, negF_num hvs] at hq ⊢
 have hc0 : coefQ v P.ps ≠ 0 := fun e => hsg (cmpQ_zero_iff.2 e)
 rw [quoF_num (Sm_neg hvs) hcs hc0] at hq ⊢
 obtain ⟨hb, hbs⟩ := heldQ_zero hq
 rw [hb]
 -- the other side
 have hh : holdsAt (lookB (⟨v, ofQ xq⟩ :: l)) x = (decide ((valuePo (lookB (⟨v, ofQ xq⟩ :: l)) x.p).2 = 0) && soF x.k (signF (valuePo (lookB (⟨v, ofQ xq⟩ :: l)) x.p).1), (valuePo (lookB (⟨v, ofQ xq⟩ :: l)) x.p).2) := by
  unfold holdsAt
  rw [hok, hk]
  rfl
 rw [hh] at h2 ⊢
 have h2' : (valuePo (lookB (⟨v, ofQ xq⟩ :: l)) (ofP P)).2 = 0 := by rw [← hp]; exact h2
 obtain ⟨hval2, hvs2, -⟩ := value_q hP h2'
 rw [hp, hval2, signF_num hvs2]
 have hf : ∀ i, i ≠ v → fq (lookB (⟨v, ofQ xq⟩ :: l)) i = fq (lookB l) i := fun i hi => by
  unfold fq
  rw [show lookB (⟨v, ofQ xq⟩ :: l) i = lookB l i from if_neg (fun e => hi e.symm)]
 have hfv : fq (lookB (⟨v, ofQ xq⟩ :: l)) v = xq := by
  unfold fq
  rw [show lookB (⟨v, ofQ xq⟩ :: l) v = ofQ xq from if_pos rfl, if_pos (ok_ofQ hxq), q_ofQ]
 rw [val_split hf hP, hfv, sign_split hc0 rfl]
 obtain ⟨b, hbb⟩ : ∃ b, b = -valQ (fq (lookB l)) (withoutQ P v) / coefQ v P.ps := ⟨_, rfl⟩
 rw [← hbb] at hbs ⊢
 obtain ⟨c, hcc⟩ : ∃ c, c = coefQ v P.ps := ⟨_, rfl⟩
 rw [← hcc] at hc0 ⊢
 have hS := cut_valid (k := x.k) (up := decide (0 < cmpQ c 0)) hbs
 have hm := cut_mem (k := x.k) (up := decide (0 < cmpQ c 0)) (x := xq) hk hbs
 have hso : soF x.k (if decide (0 < cmpQ c 0) = true then cmpQ xq b else -cmpQ xq b) = soF x.k (cmpQ xq b * cmpQ c 0) := by
  rcases rat_tri c 0 with e | e | e
  ·rw [cmpQ_lt e]; simp
  ·exact absurd e hc0
  ·rw [cmpQ_gt e]; simp
 rw [hso] at hm
 obtain ⟨S, hSS⟩ : ∃ S, S = cutS x.k (decide (0 < cmpQ c 0)) (ofQ b) := ⟨_, rfl⟩
 rw [← hSS] at hS hm ⊢
 obtain ⟨t, ht⟩ : ∃ t, t = soF x.k (cmpQ xq b * cmpQ c 0) := ⟨_, rfl⟩
 rw [← ht] at hm ⊢
 have hhas : ∀ {u : List Sp}, validP none u = true → (hasS u (ofQ xq) = true ↔ mem (.at xq false) (u.map Sp.e)) := fun {u} hu => by
  unfold hasS
  rw [hu, ok_ofQ hxq]
  have := any_mem (ok_ofQ hxq) (valid_iff.1 hu).1
  rw [q_ofQ] at this
  simpa using this
 unfold turnS
 cases nt with
 | false =>
  simp only [Bool.false_eq_true, if_false, decide_true, Bool.true_and, Bool.bne_false]
  refine ⟨hS, ?_⟩
  rw [Bool.eq_iff_iff, hhas hS, hm]
 | true =>
  simp only [if_true, decide_true, Bool.true_and, Bool.bne_true]
  have hO : validP none (otherL S) = true := by unfold otherL; rw [hS, if_pos rfl]; exact other_valid hS
  refine ⟨hO, ?_⟩
  rw [Bool.eq_iff_iff, hhas hO]
  have e : otherL S = otherS zF true false S := by unfold otherL; rw [hS, if_pos rfl]
  rw [e, other_mem hS at_lt_hi, hm]
  simp
end Go.Proofs.YtepfpgnjpkcgmaaGreat

/-
 law22: FeasPicks and FeasSays answer true.
-/
namespace Go.Proofs.YtepfpgnjpkcgmaaGreat
open Go Go.Abs Go.Limbs
variable {base : Prot}
set_option maxRecDepth 20000
attribute [local irreducible] vc
attribute [local simp] pureS touchV freezeL fuel shiftV u64 au
def sRoundN : List PVal → Option PVal
 | [.int .i64 k, .int .i64 n] => if 0 < n ∧ n ≤ 1000000 then some (.int .i64 (k % n)) else none
 | _ => none
theorem sRoundN_at {k n : Int} (h : 0 < n) (h' : n ≤ 1000000) : sRoundN [.int .i64 k, .int .i64 n] = some (.int .i64 (k % n)) := if_pos ⟨h, h'⟩
theorem roundN_ok : FnOk Tryz.prog base 52 (pureS sRoundN) := by
 refine pure_of_vc hmix Tab.none_ok globNone low52 fun args z hs hf => ?_
 unfold sRoundN at hs
 split at hs
 case h_2 => cases hs
 rename_i k n
 split at hs
 case isFalse => cases hs
 rename_i h
 cases hs
 refine ⟨by simp [lf52], ?_⟩
 have h0 : (n == 0) = false := by simp; omega
 have h0' : n ≠ 0 := by omega
 have e1 : IntKind.i64.wrap (Int.tmod k n + n) = Int.tmod k n + n := by
  have h1 := Int.tmod_lt_of_pos k h.1
  have h2 : -n < Int.tmod k n := by
   have := Int.emod_nonneg k h0'
   have := Int.emod_lt_of_pos k h.1
   rw [Int.tmod_eq_emod]
   split <;> omega
  exact IntWalk.i64_in _ (by omega)
 have e2 := rem_mod (k := k) h.1
 simp [lf52, h0, h0', e1, e2]
def Tl22p : Tab := (((((Tab.none.with 56 (pureS (s1 few22P))).with 57 (pureS sAwk)).with 58 (pureS sPick)).with 60 (pureS (s1 validS))).with 69 (pureS (s1x hasP))).with 52 (pureS sRoundN)
theorem Tl22p_ok : TabOk Tryz.prog base Tl22p := Tab.with_ok (Tab.with_ok (Tab.with_ok (Tab.with_ok (Tab.with_ok (Tab.with_ok Tab.none_ok few22_ok) awake22_ok) fpick_ok) fvalid_ok) fhas_ok) roundN_ok
theorem Tl22p_mu (f : FuncId) (a : List AVal) (H : Heap) : Tl22p.mu f a H = none := (rfl)
theorem Tl22p_fns : Tl22p.fn 56 = (pureS (s1 few22P)) ∧ Tl22p.fn 57 = (pureS sAwk) ∧ Tl22p.fn 58 = (pureS sPick) ∧ Tl22p.fn 60 = (pureS (s1 validS)) ∧ Tl22p.fn 69 = (pureS (s1x hasP)) ∧ Tl22p.fn 52 = (pureS sRoundN) := ⟨rfl, rfl, rfl, rfl, rfl, rfl⟩
def sLaw22p : List PVal → Option PVal
 | [.lst vs, .int .i64 _] => match decSs vs with | some _ => some (.bool true) | none => none
 | _ => none
theorem sLaw22p_at {s : List Sp} {k : Int} (ws : wfSs s) : sLaw22p [.lst (s.map Sp.enc), .int .i64 k] = some (.bool true) := by simp only [sLaw22p, decSs_enc ws]
theorem drop_take_one {α : Type} {l : List α} {j : Nat} {x : α} (h : l[j]? = some x) : (l.take (j + 1)).drop j = [x] := by
 rw [List.drop_take, Nat.add_sub_cancel_left]
 have hj := (List.getElem?_eq_some_iff.1 h).1
 rw [List.drop_eq_getElem_cons hj, getE h]
 rfl
set_option maxHeartbeats 4000000 in
theorem feasPicks_ok : FnOk Tryz.prog base 10 (pureS sLaw22p) := by
 refine pure_of_vc hmix Tl22p_ok globNone low10 fun args z hs hf => ?_
 unfold sLaw22p at hs
 split at hs
 case h_2 => cases hs
 rename_i vs k
 split at hs
 case h_2 => cases hs
 rename_i s hs1
 obtain ⟨rfl, ws⟩ := decSs_some hs1
 cases hs
 refine ⟨by simp [lf10], ?_⟩
 have aw := sAwk_nil
 have q1 : s1 few22P [.lst (s.map Sp.enc)] = some (.bool (fewS22 s)) := s1_at ws
 cases hf1 : fewS22 s with
 | false => rw [hf1] at q1; simp [lf10, q1, aw, fillS, Tl22p_mu, Tl22p_fns]
 | true =>
 rw [hf1] at q1
 obtain ⟨t1, l1⟩ := tiny_few hf1
 have p1 := sPick_at (k := k) ws t1
 have v1 : s1 validS [.lst (s.map Sp.enc)] = some (.bool (validP none s)) := s1_at ws
 cases hv : validP none s with
 | false =>
  rw [hv] at v1
  have e : pickS s k = (zF, 5) := by unfold pickS; rw [hv]; simp
  rw [e] at p1
  simp only [pairF, zF, Fr.enc, List.map_nil] at p1
  simp [lf10, q1, p1, v1, aw, fillS, Tl22p_mu, Tl22p_fns]
 | true =>
 rw [hv] at v1
 by_cases h0 : s = []
 ·have e : pickS s k = (zF, 5) := by unfold pickS; rw [decide_eq_true h0]; rfl
  rw [e] at p1
  subst h0
  simp only [pairF, zF, Fr.enc, List.map_nil] at p1 q1 v1
  simp [lf10, q1, p1, v1, aw, fillS, Tl22p_mu, Tl22p_fns]
 have hpos : 0 < s.length := by cases s with | nil => exact absurd rfl h0 | cons _ _ => simp
 have hl0 : ((s.length : Int) == 0) = false := by simp; omega
 have hm0 := Int.emod_nonneg k (show (s.length : Int) ≠ 0 by omega)
 have hm1 := Int.emod_lt_of_pos k (show (0 : Int) < s.length by omega)
 obtain ⟨j, hj⟩ : ∃ j : Nat, k % (s.length : Int) = j := ⟨(k % (s.length : Int)).toNat, by omega⟩
 have hjl : j < s.length := by omega
 obtain ⟨x, hx⟩ : ∃ x, s[j]? = some x := ⟨_, List.getElem?_eq_getElem hjl⟩
 have hxm := List.mem_of_getElem? hx
 obtain ⟨gx, sx⟩ := some_of_valid hv x hxm
 have e : pickS s k = insideS x := by
  unfold pickS
  rw [decide_eq_false h0, hv, hj, Int.toNat_natCast, hx]
  rfl
 rw [e] at p1
 have wx := ws x hxm
 have wp := wf_insideS wx
 have rd := sRoundN_at (k := k) (n := (s.length : Int)) (by omega) (by omega)
 rw [hj] at rd
 rcases inside_err x with he | he
 ·obtain ⟨i1, i2⟩ := inside_in gx sx he
  have a1 : s1x hasP [.lst (s.map Sp.enc), (insideS x).1.enc] = some (.bool true) := by
   rw [s1x_at ws wp]
   unfold hasP hasS
   rw [hv, i1, List.any_eq_true.2 ⟨x, hxm, i2⟩]
   rfl
  have w1 : wfSs [x] := fun y hy => by rw [List.mem_singleton] at hy; subst hy; exact wx
  have a2 : s1x hasP [.lst ([x].map Sp.enc), (insideS x).1.enc] = some (.bool true) := by
   rw [s1x_at w1 wp]
   unfold hasP hasS
   have : validP none [x] = true := valid_iff.2 ⟨fun y hy => by rw [List.mem_singleton] at hy; subst hy; exact gx, by
    rw [some_iff gx] at sx
    exact ⟨of_decide_eq_true sx, trivial⟩⟩
   rw [this, i1, List.any_eq_true.2 ⟨x, by simp, i2⟩]
   rfl
  have dt : (((s.map Sp.enc).take (j + 1)).drop j) = [x].map Sp.enc := drop_take_one (by rw [List.getElem?_map, hx]; rfl)
  have hw := wrap_succ (i := j) (by omega)
  obtain ⟨R, hR⟩ : ∃ R, R = insideS x := ⟨_, rfl⟩
  rw [← hR] at p1 a1 a2 he
  rw [← dt] at a2
  unfold pairF at p1
  rw [he] at p1
  simp only [Fr.enc] at p1 a1 a2
  have hj1 : ((j : Int) + 1) ≤ (s.length : Int) := by omega
  have hj2 : (j : Int) ≤ (j : Int) + 1 := by omega
  have hj3 : ((j : Int) + 1).toNat = j + 1 := by omega
  simp [lf10, q1, p1, v1, aw, hl0, h0, rd, a1, hw, sizeOk_sp, hj1, hj2, hj3, -List.map_take, -List.map_drop, fillS, Tl22p_mu, Tl22p_fns]
  simp [a2, aw, -List.map_take, -List.map_drop, fillS, Tl22p_mu, Tl22p_fns]
 ·obtain ⟨R, hR⟩ : ∃ R, R = insideS x := ⟨_, rfl⟩
  rw [← hR] at p1 he
  unfold pairF at p1
  rw [he] at p1
  simp only [Fr.enc] at p1
  simp [lf10, q1, p1, v1, aw, hl0, h0, fillS, Tl22p_mu, Tl22p_fns]
def Tl22s : Tab := (((((((((Tab.none.with 35 (pureS (h1 fewAt))).with 14 (pureS (f1 fewP1))).with 50 (pureS (f1 boolF))).with 75 (pureS sFewB22)).with 78 (pureS sBinds22)).with 57 (pureS sAwk)).with 76 (pureS (sOfA L22))).with 45 (pureS sRHolds)).with 60 (pureS (s1 validS))).with 69 (pureS (s1x hasP))
theorem Tl22s_ok : TabOk Tryz.prog base Tl22s := Tab.with_ok (Tab.with_ok (Tab.with_ok (Tab.with_ok (Tab.with_ok (Tab.with_ok (Tab.with_ok (Tab.with_ok (Tab.with_ok (Tab.with_ok Tab.none_ok aatom_ok) arat_ok) rvalidR_ok) fewB22_ok) binds22_ok) awake22_ok) of22_ok) rholds_ok) fvalid_ok) fhas_ok
theorem Tl22s_mu (f : FuncId) (a : List AVal) (H : Heap) : Tl22s.mu f a H = none := (rfl)
theorem Tl22s_fns : Tl22s.fn 35 = (pureS (h1 fewAt)) ∧ Tl22s.fn 14 = (pureS (f1 fewP1)) ∧ Tl22s.fn 50 = (pureS (f1 boolF)) ∧ Tl22s.fn 75 = (pureS sFewB22) ∧ Tl22s.fn 78 = (pureS sBinds22) ∧ Tl22s.fn 57 = (pureS sAwk) ∧ Tl22s.fn 76 = (pureS (sOfA L22)) ∧ Tl22s.fn 45 = (pureS sRHolds) ∧ Tl22s.fn 60 = (pureS (s1 validS)) ∧ Tl22s.fn 69 = (pureS (s1x hasP)) := ⟨rfl, rfl, rfl, rfl, rfl, rfl, rfl, rfl, rfl, rfl⟩
theorem take_bd {a : AVal} (l : List Bd) : List.take (1 + l.length) (a :: l.map (AVal.p ∘ Bd.enc)) = a :: l.map (AVal.p ∘ Bd.enc) := List.take_of_length_le (by simp; omega)
theorem touch_bd {H : Heap} {n : Nat} (l : List Bd) : (l.map (AVal.p ∘ Bd.enc)).flatMap (touchV H n) = [] := by rw [← List.map_map]; exact touch_p _
def sLaw22s : List PVal → Option PVal
 | [a, .bool _, .int .i64 _, .lst bs, y] => match decAt a, decBs bs, decF y with | some _, some _, some _ => some (.bool true) | _, _, _ => none
 | _ => none
theorem sLaw22s_at {x : At} {nt : Bool} {v : Int} {l : List Bd} {y : Fr} (wx : x.p.wf) (wl : wfB l) (wy : y.wf) : sLaw22s [x.enc, .bool nt, .int .i64 v, .lst (l.map Bd.enc), y.enc] = some (.bool true) := by
 simp only [sLaw22s, decAt_enc wx, decBs_enc wl, decF_enc wy]
set_option maxHeartbeats 4000000 in
theorem feasSays_ok : FnOk Tryz.prog base 11 (pureS sLaw22s) := by
 refine pure_of_vc hmix Tl22s_ok globNone low11 fun args z hs hf => ?_
 unfold sLaw22s at hs
 split at hs
 case h_2 => cases hs
 rename_i a nt v bs w
 split at hs
 case h_2 => cases hs
 rename_i x l y hx hbs hy
 obtain ⟨rfl, wx⟩ := decAt_some hx
 obtain ⟨rfl, wl⟩ := decBs_some hbs
 obtain ⟨rfl, wy⟩ := decF_some hy
 cases hs
 refine ⟨by simp [lf11], ?_⟩
 have hm := maxLen_ge
 have aw := sAwk_nil
 have q1 : h1 fewAt [x.enc] = some (.bool (fewPo x.p)) := h1_at wx
 have q2 := sFewB22_at wl
 have q3 : f1 fewP1 [y.enc] = some (.bool (fewF1 y)) := f1_at wy
 have q4 := vF wy
 cases hf1 : fewPo x.p with
 | false => rw [hf1] at q1; simp only [At.enc, Po.enc, Fr.enc] at q1 ⊢; simp [lf11, q1, aw, fillS, Tl22s_mu, Tl22s_fns]
 | true =>
 rw [hf1] at q1
 cases hf2 : fewB l with
 | false => rw [hf2] at q2; simp only [At.enc, Po.enc, Fr.enc] at q1 ⊢; simp [lf11, q1, q2, aw, fillS, Tl22s_mu, Tl22s_fns]
 | true =>
 rw [hf2] at q2
 cases hf3 : fewF1 y with
 | false => rw [hf3] at q3; simp only [At.enc, Po.enc, Fr.enc] at q1 q3 ⊢; simp [lf11, q1, q2, q3, aw, fillS, Tl22s_mu, Tl22s_fns]
 | true =>
 rw [hf3] at q3
 cases hf4 : y.ok with
 | false => rw [hf4] at q4; simp only [At.enc, Po.enc, Fr.enc] at q1 q3 q4 ⊢; simp [lf11, q1, q2, q3, q4, aw, fillS, Tl22s_mu, Tl22s_fns]
 | true =>
 rw [hf4] at q4
 have hl := len_of_few hf2
 have b1 := sBinds22_at wl (by omega)
 have c1 := sOfA_at (L := L22) (nt := nt) (v := v) wx (few_of_at hf1) (L22_at2 wl (by omega))
 have wR := wf_ofAt (lk := lookB l) (x := x) (nt := nt) (v := v)
 have hno := ofAt_none (lk := lookB l) (x := x) (nt := nt) (v := v)
 have hso := says_so (l := l) (x := x) (nt := nt) (v := v) hf4
 have wl' : wfB (⟨v, y⟩ :: l) := fun b hb => by
  rcases List.mem_cons.1 hb with rfl | hb
  ·exact wy
  ·exact wl b hb
 have hol := sRHolds_at wx (few_of_at hf1) wl'
 obtain ⟨R, hR⟩ : ∃ R, R = ofAt (lookB l) x nt v := ⟨_, rfl⟩
 rw [← hR] at c1 wR hno hso
 obtain ⟨Q, hQ⟩ : ∃ Q, Q = holdsAt (lookB (⟨v, y⟩ :: l)) x := ⟨_, rfl⟩
 rw [← hQ] at hol hso
 have v1 : s1 validS [.lst (R.1.map Sp.enc)] = some (.bool (validP none R.1)) := s1_at wR
 have a1 : s1x hasP [.lst (R.1.map Sp.enc), y.enc] = some (.bool (hasS R.1 y)) := s1x_at wR wy
 have er : ((R.2 : Int) != 0) = !decide (R.2 = 0) := by rw [Bool.eq_iff_iff]; simp
 have eq : ((Q.2 : Int) != 0) = !decide (Q.2 = 0) := by rw [Bool.eq_iff_iff]; simp
 unfold pairSs at c1
 unfold holdsPr at hol
 simp only [At.enc, Po.enc, Fr.enc, Bd.enc, List.map_cons] at q1 q3 q4 c1 a1 hol ⊢
 have hB : (1 + l.length) * 64 ≤ 140737488355328 := by omega
 have hle : 1 + l.length ≤ l.length + 1 := by omega
 have hM : 1 + l.length ≤ maxLen := by omega
 by_cases h1 : R.2 = 0
 ·by_cases h2 : Q.2 = 0
  ·obtain ⟨s1', s2'⟩ := hso h1 h2
   rw [s1'] at v1
   rw [s2'] at a1
   have ebn : (Q.1 != nt) = ((Q.1 == nt) != true) := by cases Q.1 <;> cases nt <;> rfl
   simp [lf11, q1, q2, q3, q4, aw, c1, er, h1, mkClo, fillS, freeze1, Tl22s_mu, Tl22s_fns]
   rw [vc_regionW]
   refine ⟨[], ?_⟩
   simp [lf11, q1, q2, q3, q4, aw, b1, fillS, freeze1, Tl22s_mu, Tl22s_fns]
   refine ⟨keep3, ?_⟩
   simp [lf11, Bd.enc, hB, hM, hle, take_bd, touch_bd, mapO_p, mapO_pe, touch_p, hol, eq, h2, v1, a1, ebn, aw, fillS, freeze1, Tl22s_mu, Tl22s_fns]
  ·simp [lf11, q1, q2, q3, q4, aw, c1, er, h1, mkClo, fillS, freeze1, Tl22s_mu, Tl22s_fns]
   rw [vc_regionW]
   refine ⟨[], ?_⟩
   simp [lf11, q1, q2, q3, q4, aw, b1, fillS, freeze1, Tl22s_mu, Tl22s_fns]
   refine ⟨keep3, ?_⟩
   simp [lf11, Bd.enc, hB, hM, hle, take_bd, touch_bd, mapO_p, mapO_pe, touch_p, hol, eq, h2, aw, fillS, freeze1, Tl22s_mu, Tl22s_fns]
 ·simp [lf11, q1, q2, q3, q4, aw, c1, er, h1, hno h1, mkClo, fillS, freeze1, Tl22s_mu, Tl22s_fns]
end Go.Proofs.YtepfpgnjpkcgmaaGreat
