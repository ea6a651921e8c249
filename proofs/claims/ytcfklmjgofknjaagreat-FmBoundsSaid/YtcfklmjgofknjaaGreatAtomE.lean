/-
  Values of atoms: the plain law. No conditions beyond the lemmas' own hypotheses.
-/
import Derived.Test.YtcfklmjgofknjaaGreatAtomD
set_option linter.unusedSimpArgs false
set_option linter.unnecessarySimpa false
set_option linter.unusedVariables false
set_option linter.constructorNameAsVariable false

/-
 law9: AtomTells answers true.
-/
namespace Go.Proofs.YtcfklmjgofknjaaGreat
open Go Go.Abs Go.Limbs
variable {base : Prot}
set_option maxRecDepth 20000
attribute [local irreducible] vc
attribute [local simp] pureS touchV freezeL fuel shiftV u64 au
theorem wf_notAt (x : At) : (notAt x).1.p.wf := by
 unfold notAt
 split
 ·split
  ·exact wf_makeAt
  ·exact wf_zPo
 ·exact wf_zPo
theorem sameAt_self {x : At} (h : x.p.wf) : h2 sameAt [x.enc, x.enc] = some (.bool true) := by rw [h2_at h h]; unfold sameAt; rw [decide_eq_true rfl]
end Go.Proofs.YtcfklmjgofknjaaGreat

/-
 law9: AtomForms answers true.
-/
namespace Go.Proofs.YtcfklmjgofknjaaGreat
open Go Go.Abs Go.Limbs
variable {base : Prot}
set_option maxRecDepth 20000
attribute [local irreducible] vc
attribute [local simp] pureS touchV freezeL fuel shiftV u64 au
structure FormF (K kd : Int) (p q A : Po) (n : Bool) : Prop where
 m1 : ki makeP [.int .i64 kd, p.enc] = some (.tup [(At.mk K A 0 0).enc, .bool n, .int .i64 0])
 m2 : ki makeP [.int .i64 kd, q.enc] = some (.tup [(At.mk K A 0 0).enc, .bool n, .int .i64 0])
 sm : h2 sameAt [(At.mk K A 0 0).enc, (At.mk K A 0 0).enc] = some (.bool true)
 v : h1 okAt [(At.mk K A 0 0).enc] = some (.bool true)
structure NotF (K J : Int) (A M : Po) : Prop where
 n1 : h1s notP [(At.mk K A 0 0).enc] = some (.tup [(At.mk J M 0 0).enc, .bool true])
 n2 : h1s notP [(At.mk J M 0 0).enc] = some (.tup [(At.mk K A 0 0).enc, .bool true])
 v2 : h1 okAt [(At.mk J M 0 0).enc] = some (.bool true)
 d : h2 sameAt [(At.mk J M 0 0).enc, (At.mk K A 0 0).enc] = some (.bool false)
end Go.Proofs.YtcfklmjgofknjaaGreat

/-
 Values of sums of fractions: the plain law.
-/
namespace Go.Proofs.YtcfklmjgofknjaaGreat
open Go Go.Abs Go.Limbs
set_option maxRecDepth 20000
def sumQ (l : Int → Rat) : QP → Rat → Rat
 | [], s => s
 | x :: r, s => sumQ l r (s + x.1 * l x.2)
def lkQ (l : Int → Rat) : Int → Fr := fun i => ofQ (l i)
theorem heldQ_zero {q : Rat} (h : (heldQ q).2 = 0) : heldQ q = (ofQ q, 0) ∧ Sm 64 q := by
 unfold heldQ at h ⊢
 split
 ·exact ⟨rfl, by assumption⟩
 ·rename_i hn; rw [if_neg hn] at h; cases h
theorem sumF_step {lk : Int → Fr} {x : Pa} {r : List Pa} {s : Fr} {m : Fr × Nat} (hm : mulF x.c (lk x.t) = m) : sumF lk (x :: r) s = if m.2 = 0 then (if (addF s m.1).2 = 0 then sumF lk r (addF s m.1).1 else (zF, 4)) else (zF, 4) := by subst hm; rfl
theorem sumF_st {l : Int → Rat} {x : Rat × Int} {r : QP} {s : Rat} (hx : Sm 64 x.1) (hl : Sm 64 (l x.2)) (hs : Sm 64 s) :
  sumF (lkQ l) ((x :: r).map ofA) (ofQ s) = if Sm 64 (x.1 * l x.2) ∧ Sm 64 (s + x.1 * l x.2) then sumF (lkQ l) (r.map ofA) (ofQ (s + x.1 * l x.2)) else (zF, 4) := by
 have hm : mulF (ofA x).c (lkQ l (ofA x).t) = heldQ (x.1 * l x.2) := by
  show mulF (ofQ x.1) (ofQ (l x.2)) = _
  exact mulF_num hx hl
 rw [List.map_cons, sumF_step hm]
 by_cases h1 : Sm 64 (x.1 * l x.2)
 ·rw [heldQ_ok h1]
  simp only [if_true]
  rw [addF_num hs h1]
  by_cases h2 : Sm 64 (s + x.1 * l x.2)
  ·rw [heldQ_ok h2, if_pos (show Sm 64 (x.1 * l x.2) ∧ Sm 64 (s + x.1 * l x.2) from ⟨h1, h2⟩)]
   simp only [if_true]
  ·rw [if_neg (show ¬ (Sm 64 (x.1 * l x.2) ∧ Sm 64 (s + x.1 * l x.2)) from fun h => h2 h.2), show heldQ (s + x.1 * l x.2) = (zF, 4) from if_neg h2]
   exact if_neg (by decide : ¬ (4 : Nat) = 0)
 ·rw [if_neg (show ¬ (Sm 64 (x.1 * l x.2) ∧ Sm 64 (s + x.1 * l x.2)) from fun h => h1 h.1), show heldQ (x.1 * l x.2) = (zF, 4) from if_neg h1]
  exact if_neg (by decide : ¬ (4 : Nat) = 0)
theorem sumF_of {l : Int → Rat} (hl : ∀ i, Sm 64 (l i)) : ∀ {ps : QP} {s : Rat}, SmP 64 ps → Sm 64 s → (sumF (lkQ l) (ps.map ofA) (ofQ s)).2 = 0 → sumF (lkQ l) (ps.map ofA) (ofQ s) = (ofQ (sumQ l ps s), 0) ∧ Sm 64 (sumQ l ps s)
 | [], s, _, hs, _ => ⟨rfl, hs⟩
 | x :: r, s, hp, hs, h => by
  rw [sumF_st (hp x (by simp)) (hl _) hs] at h ⊢
  split at h
  ·rename_i h1
   rw [if_pos h1]
   exact sumF_of hl (fun y hy => hp y (by simp [hy])) h1.2 h
  ·cases h
theorem sumQ_mul (l : Int → Rat) (k : Rat) : ∀ (ps : QP) (s : Rat), sumQ l (mulQ k ps) (s * k) = sumQ l ps s * k
 | [], s => rfl
 | x :: r, s => by
  show sumQ l (mulQ k r) (s * k + x.1 * k * l x.2) = sumQ l r (s + x.1 * l x.2) * k
  rw [← sumQ_mul l k r, show s * k + x.1 * k * l x.2 = (s + x.1 * l x.2) * k by grind]
def valQ (l : Int → Rat) (P : Qo) : Rat := sumQ l P.ps P.c
theorem val_scale (l : Int → Rat) {k : Rat} (hk : k ≠ 0) (P : Qo) : valQ l (scaleQ P k) = valQ l P * k := by
 unfold valQ scaleQ
 rw [if_neg hk]
 exact sumQ_mul l k P.ps P.c
theorem value_of {l : Int → Rat} (hl : ∀ i, Sm 64 (l i)) {P : Qo} (hP : P.Is 64) (h : (valuePo (lkQ l) (ofP P)).2 = 0) : valuePo (lkQ l) (ofP P) = (ofQ (valQ l P), 0) ∧ Sm 64 (valQ l P) := by
 have ha : ((ofP P).ps.all fun x => (lkQ l x.t).ok) = true := List.all_eq_true.2 fun x _ => ok_ofQ (hl _)
 unfold valuePo at h ⊢
 rw [ok_ofP hP, ha] at h ⊢
 exact sumF_of hl hP.sp hP.sc h
def SameSg (k : Int) (a b : Rat) : Prop := (a = 0 ↔ b = 0) ∧ (k ≠ 3 → (a < 0 ↔ b < 0))
theorem norm_sign (l : Int → Rat) (k : Int) {P : Qo} {m : Nat} (h : P.Is m) : SameSg k (valQ l (normQ k P)) (valQ l P) := by
 unfold normQ
 split
 ·rename_i hp
  unfold valQ
  rw [hp]
  show SameSg k (sgnQ P.c) P.c
  unfold sgnQ
  refine ⟨?_, fun _ => ?_⟩
  ·split
   ·rename_i h1; constructor
    ·intro e; exact absurd e (by decide)
    ·intro e; rw [e] at h1; exact absurd h1 (lt_irr _)
   ·split
    ·rename_i h2; simp [h2]
    ·rename_i h2; constructor
     ·intro e; exact absurd e (by decide)
     ·intro e; exact absurd e h2
  ·split
   ·rename_i h1; exact ⟨fun _ => h1, fun _ => by decide⟩
   ·rename_i h1
    split
    ·constructor
     ·intro e; exact absurd e (lt_irr _)
     ·intro e; exact absurd e h1
    ·constructor
     ·intro e; exact absurd e (by decide)
     ·intro e; exact absurd e h1
 ·rename_i x r hx
  have h0 : x.1 ≠ 0 := by have := h.ok; rw [hx] at this; exact this.2.1
  have hz0 := szQ_ne (k := k) h0
  have hz1 : 1 / szQ k x.1 ≠ 0 := by grind
  rw [val_scale l hz1]
  refine ⟨⟨fun e => by rcases Rat.mul_eq_zero.1 e with e | e; exact e; contradiction, fun e => by rw [e, Rat.zero_mul]⟩, fun hk => ?_⟩
  have hp : 0 < szQ k x.1 := by
   unfold szQ
   split
   ·rename_i h; grind
   ·rename_i h
    rcases rat_tri x.1 0 with h1 | h1 | h1
    ·exact absurd ⟨h1, hk⟩ h
    ·contradiction
    ·exact h1
  have hq : 0 < 1 / szQ k x.1 := by
   rw [Rat.div_def, Rat.one_mul]
   exact Rat.inv_pos.2 hp
  constructor
  ·intro h1
   rcases rat_tri (valQ l P) 0 with h2 | h2 | h2
   ·exact h2
   ·rw [h2, Rat.zero_mul] at h1; exact absurd h1 (lt_irr _)
   ·exact absurd h1 (lt_asymm (Rat.mul_pos h2 hq))
  ·intro h1
   have := Rat.mul_pos (show 0 < -valQ l P by grind) hq
   grind
end Go.Proofs.YtcfklmjgofknjaaGreat

/-
 law9: AtomOpposites answers true.
-/
namespace Go.Proofs.YtcfklmjgofknjaaGreat
open Go Go.Abs Go.Limbs
variable {base : Prot}
set_option maxRecDepth 20000
attribute [local irreducible] vc
attribute [local simp] pureS touchV freezeL fuel shiftV u64 au
end Go.Proofs.YtcfklmjgofknjaaGreat

/-
 law23: sums at values, without and with a term: the plain law.
-/
namespace Go.Proofs.YtcfklmjgofknjaaGreat
open Go Go.Abs Go.Limbs
set_option maxRecDepth 20000
theorem ok_of_at {x : At} (h : x.ok = true) (hk : isSum x.k = true) : x.p.ok = true := by
 unfold At.ok at h
 rw [if_pos hk] at h
 simp only [Bool.and_eq_true] at h
 exact h.2.2.1
def fq (lk : Int → Fr) (i : Int) : Rat := if (lk i).ok = true then (lk i).q else 0
theorem fq_sm (lk : Int → Fr) (i : Int) : Sm 64 (fq lk i) := by
 unfold fq
 split
 ·rename_i h
  obtain ⟨q, hq, e⟩ := Fr.ok_of h
  rw [e, q_ofQ]; exact hq
 ·decide +kernel
theorem fq_of {lk : Int → Fr} {i : Int} (h : (lk i).ok = true) : lk i = ofQ (fq lk i) := by
 unfold fq
 rw [if_pos h]
 obtain ⟨q, hq, e⟩ := Fr.ok_of h
 rw [e, q_ofQ]
theorem sumF_congr {lk lk' : Int → Fr} : ∀ {ps : List Pa} {s : Fr}, (∀ x ∈ ps, lk x.t = lk' x.t) → sumF lk ps s = sumF lk' ps s
 | [], _, _ => rfl
 | x :: r, s, h => by
  have e := h x (by simp)
  have ih := fun s => sumF_congr (lk := lk) (lk' := lk') (ps := r) (s := s) fun y hy => h y (by simp [hy])
  rw [sumF_step rfl, sumF_step rfl, e]
  simp only [ih]
theorem value_q {lk : Int → Fr} {P : Qo} (hP : P.Is 64) (h : (valuePo lk (ofP P)).2 = 0) : valuePo lk (ofP P) = (ofQ (valQ (fq lk) P), 0) ∧ Sm 64 (valQ (fq lk) P) ∧ ∀ y ∈ P.ps, (lk y.2).ok = true := by
 have hall : ((ofP P).ps.all fun x => (lk x.t).ok) = true := by
  cases e : (ofP P).ps.all fun x => (lk x.t).ok with
  | true => rfl
  | false =>
   unfold valuePo at h
   rw [e, Bool.and_false] at h
   cases h
 have hk : ∀ x ∈ (ofP P).ps, (lk x.t).ok = true := fun x hx => List.all_eq_true.1 hall x hx
 have e : valuePo lk (ofP P) = valuePo (lkQ (fq lk)) (ofP P) := by
  have ha : ((ofP P).ps.all fun x => (lkQ (fq lk) x.t).ok) = true := List.all_eq_true.2 fun x _ => ok_ofQ (fq_sm lk _)
  unfold valuePo
  rw [hall, ha, sumF_congr (lk' := lkQ (fq lk)) fun x hx => fq_of (hk x hx)]
 rw [e] at h ⊢
 obtain ⟨a, b⟩ := value_of (fq_sm lk) hP h
 exact ⟨a, b, fun y hy => hk (ofA y) (List.mem_map.2 ⟨y, hy, rfl⟩)⟩
def coefQ (t : Int) : QP → Rat
 | [] => 0
 | x :: r => if x.2 = t then x.1 else coefQ t r
def dropQ (t : Int) : QP → QP
 | [] => []
 | x :: r => if x.2 = t then r else x :: dropQ t r
theorem drop_of (t : Int) : ∀ ps : QP, dropF t (ps.map ofA) = (dropQ t ps).map ofA
 | [] => rfl
 | x :: r => by
  show (if x.2 = t then r.map ofA else ofA x :: dropF t (r.map ofA)) = _
  unfold dropQ
  rw [drop_of t r]
  split <;> rfl
theorem find_of (t : Int) : ∀ ps : QP, (findF t (ps.map ofA) = none ∧ coefQ t ps = 0) ∨ findF t (ps.map ofA) = some (ofQ (coefQ t ps))
 | [] => .inl ⟨rfl, rfl⟩
 | x :: r => by
  show ((if x.2 = t then some (ofQ x.1) else findF t (r.map ofA)) = none ∧ _) ∨ (if x.2 = t then some (ofQ x.1) else findF t (r.map ofA)) = _
  unfold coefQ
  split
  ·exact .inr rfl
  ·exact find_of t r
theorem coef_of {P : Qo} (hP : P.Is 64) (t : Int) : coefPo (ofP P) t = ofQ (coefQ t P.ps) := by
 unfold coefPo
 rw [ok_ofP hP]
 show (match findF t (P.ps.map ofA) with | some c => if True then c else ofQ 0 | none => ofQ 0) = _
 rcases find_of t P.ps with ⟨h, h'⟩ | h
 ·rw [h, h']
 ·rw [h]; rfl
theorem coef_sm (t : Int) : ∀ {ps : QP}, SmP 64 ps → Sm 64 (coefQ t ps)
 | [], _ => by show Sm 64 (0 : Rat); decide +kernel
 | x :: r, h => by
  unfold coefQ
  split
  ·exact h x (by simp)
  ·exact coef_sm t fun y hy => h y (by simp [hy])
theorem dropQ_mem {t : Int} : ∀ {ps : QP} {y : Rat × Int}, y ∈ dropQ t ps → y ∈ ps
 | x :: r, y, h => by
  unfold dropQ at h
  split at h
  ·exact List.mem_cons_of_mem _ h
  ·rcases List.mem_cons.1 h with rfl | h
   ·simp
   ·exact List.mem_cons_of_mem _ (dropQ_mem h)
theorem okQ_mono {a b : Int} : ∀ {ps : QP}, okQ b ps → a ≤ b → okQ a ps
 | [], _, _ => trivial
 | x :: r, h, hab => ⟨by have := h.1; omega, h.2.1, h.2.2⟩
theorem okQ_drop {t : Int} : ∀ {ps : QP} {a : Int}, okQ a ps → okQ a (dropQ t ps)
 | [], _, _ => trivial
 | x :: r, a, h => by
  unfold dropQ
  split
  ·exact okQ_mono h.2.2 (by have := h.1; omega)
  ·exact ⟨h.1, h.2.1, okQ_drop h.2.2⟩
def withoutQ (P : Qo) (t : Int) : Qo := ⟨dropQ t P.ps, P.c⟩
theorem without_of (P : Qo) (t : Int) : withoutPo (ofP P) t = ofP (withoutQ P t) := by
 unfold withoutPo ofP withoutQ
 rw [drop_of]
theorem without_is {P : Qo} {k : Nat} (h : P.Is k) (t : Int) : (withoutQ P t).Is k := ⟨okQ_drop h.ok, fun y hy => h.sp y (dropQ_mem hy), h.sc⟩
theorem sumQ_add (l : Int → Rat) : ∀ (ps : QP) (s u : Rat), sumQ l ps (s + u) = sumQ l ps s + u
 | [], s, u => rfl
 | x :: r, s, u => by
  show sumQ l r (s + u + x.1 * l x.2) = sumQ l r (s + x.1 * l x.2) + u
  rw [← sumQ_add l r, show s + u + x.1 * l x.2 = s + x.1 * l x.2 + u by grind]
theorem sumQ_congr {l l' : Int → Rat} : ∀ {ps : QP} {s : Rat}, (∀ x ∈ ps, l x.2 = l' x.2) → sumQ l ps s = sumQ l' ps s
 | [], _, _ => rfl
 | x :: r, s, h => by
  show sumQ l r (s + x.1 * l x.2) = sumQ l' r (s + x.1 * l' x.2)
  rw [h x (by simp), sumQ_congr fun y hy => h y (by simp [hy])]
theorem okQ_lt {t : Int} : ∀ {ps : QP}, okQ t ps → ∀ x ∈ ps, t < x.2
 | y :: r, h, x, hx => by
  rcases List.mem_cons.1 hx with rfl | hx
  ·exact h.1
  ·exact okQ_lt (okQ_mono h.2.2 (by have := h.1; omega)) x hx
theorem sum_split {f f' : Int → Rat} {t : Int} (hf : ∀ i, i ≠ t → f' i = f i) : ∀ {ps : QP} {a : Int} {s : Rat}, okQ a ps → sumQ f' ps s = sumQ f (dropQ t ps) s + coefQ t ps * f' t
 | [], _, s, _ => by show s = s + 0 * f' t; grind
 | x :: r, a, s, h => by
  show sumQ f' r (s + x.1 * f' x.2) = _
  unfold dropQ coefQ
  by_cases hx : x.2 = t
  ·rw [if_pos hx, if_pos hx, hx, sumQ_add]
   have e : sumQ f' r s = sumQ f r s := sumQ_congr fun y hy => hf _ fun e => by
    have := okQ_lt h.2.2 y hy
    omega
   rw [e]
  ·rw [if_neg hx, if_neg hx, sum_split hf h.2.2, hf _ hx]
   rfl
theorem val_split {f f' : Int → Rat} {t : Int} (hf : ∀ i, i ≠ t → f' i = f i) {P : Qo} {k : Nat} (h : P.Is k) : valQ f' P = valQ f (withoutQ P t) + coefQ t P.ps * f' t := sum_split hf h.ok
end Go.Proofs.YtcfklmjgofknjaaGreat
