/-
  Sets of spans over ends: the plain law. No conditions beyond the lemmas' own hypotheses.
-/
import Derived.Test.YtepfpgnjpkcgmaaGreatAtomD
set_option linter.unusedSimpArgs false
set_option linter.unnecessarySimpa false
set_option linter.unusedVariables false
set_option linter.constructorNameAsVariable false

/-
 Sets of spans over ends: the plain law.
-/
namespace Go.Proofs.YtepfpgnjpkcgmaaGreat
inductive EC where
 | lo
 | at (q : Rat) (o : Bool)
 | hi
deriving DecidableEq
def EC.le : EC → EC → Bool
 | .lo, _ => true
 | _, .hi => true
 | .at p a, .at q b => decide (p < q) || decide (p = q) && (!a || b)
 | _, _ => false
instance : LE EC := ⟨fun a b => EC.le a b = true⟩
instance : LT EC := ⟨fun a b => ¬ b ≤ a⟩
instance (a b : EC) : Decidable (a ≤ b) := inferInstanceAs (Decidable (EC.le a b = true))
instance (a b : EC) : Decidable (a < b) := inferInstanceAs (Decidable (¬ b ≤ a))
theorem EC.le_iff (a b : EC) : a ≤ b ↔ EC.le a b = true := Iff.rfl
instance : Std.IsLinearOrder EC where
 le_refl a := by
  rw [EC.le_iff]
  cases a <;> simp [EC.le]
 le_trans a b c h1 h2 := by
  rw [EC.le_iff] at *
  cases a <;> cases b <;> cases c <;> simp_all [EC.le] <;> grind
 le_antisymm a b h1 h2 := by
  rw [EC.le_iff] at *
  cases a <;> cases b <;> simp_all [EC.le]
  rename_i q o q' o'
  cases o <;> cases o' <;> grind
 le_total a b := by
  rw [EC.le_iff, EC.le_iff]
  cases a <;> cases b <;> simp [EC.le]
  rename_i q o q' o'
  cases o <;> cases o' <;> grind
instance : Std.LawfulOrderLT EC where
 lt_iff a b := by
  show ¬ b ≤ a ↔ a ≤ b ∧ ¬ b ≤ a
  have := (inferInstance : Std.IsLinearOrder EC).le_total a b
  grind
theorem EC.lo_le (a : EC) : .lo ≤ a := by rw [EC.le_iff]; cases a <;> rfl
theorem EC.le_hi (a : EC) : a ≤ .hi := by rw [EC.le_iff]; cases a <;> rfl
structure ES where
 l : EC
 h : EC
deriving DecidableEq
def Ab (a : EC) : List ES → Prop
 | [] => True
 | x :: r => a < x.l ∧ x.l < x.h ∧ Ab x.h r
def Ok : List ES → Prop
 | [] => True
 | x :: r => x.l < x.h ∧ Ab x.h r
def mem (c : EC) : List ES → Prop
 | [] => False
 | x :: r => (x.l ≤ c ∧ c < x.h) ∨ mem c r
theorem mem_above {a c : EC} : ∀ {s : List ES}, Ab a s → mem c s → a < c
 | x :: r, h, hm => by
  obtain ⟨h1, h2, h3⟩ := h
  rcases hm with hm | hm
  ·grind
  ·have := mem_above h3 hm; grind
theorem Ab.mono {a b : EC} : ∀ {s : List ES}, Ab b s → a ≤ b → Ab a s
 | [], _, _ => trivial
 | x :: r, h, hab => by obtain ⟨h1, h2, h3⟩ := h; exact ⟨by grind, h2, h3⟩
theorem Ab.ok {a : EC} {s : List ES} (h : Ab a s) : Ok s := by
 cases s with
 | nil => trivial
 | cons x r => exact h.2
theorem uniq : ∀ {s u : List ES}, Ok s → Ok u → (∀ c, mem c s ↔ mem c u) → s = u
 | [], [], _, _, _ => rfl
 | [], b :: u, _, hu, h => by
  have := (h b.l).2 (.inl ⟨by grind, hu.1⟩)
  exact this.elim
 | a :: s, [], hs, _, h => by
  have := (h a.l).1 (.inl ⟨by grind, hs.1⟩)
  exact this.elim
 | a :: s, b :: u, hs, hu, h => by
  obtain ⟨ha, hs⟩ := hs
  obtain ⟨hb, hu⟩ := hu
  have e1 : a.l = b.l := by
   have h1 := (h a.l).1 (.inl ⟨by grind, ha⟩)
   have h2 := (h b.l).2 (.inl ⟨by grind, hb⟩)
   rcases h1 with h1 | h1
   ·rcases h2 with h2 | h2
    ·grind
    ·have := mem_above hs h2; grind
   ·have := mem_above hu h1
    rcases h2 with h2 | h2
    ·grind
    ·have := mem_above hs h2; grind
  have e2 : a.h = b.h := by
   by_cases h1 : a.h < b.h
   ·have h2 := (h a.h).2 (.inl ⟨by grind, h1⟩)
    rcases h2 with h2 | h2
    ·grind
    ·have := mem_above hs h2; grind
   ·by_cases h3 : b.h < a.h
    ·have h2 := (h b.h).1 (.inl ⟨by grind, h3⟩)
     rcases h2 with h2 | h2
     ·grind
     ·have := mem_above hu h2; grind
    ·grind
  have e3 : a = b := by cases a; cases b; simp_all
  subst e3
  rw [uniq hs.ok hu.ok fun c => ?_]
  constructor
  ·intro hm
   have hc := mem_above hs hm
   rcases (h c).1 (.inr hm) with h2 | h2
   ·grind
   ·exact h2
  ·intro hm
   have hc := mem_above hu hm
   rcases (h c).2 (.inr hm) with h2 | h2
   ·grind
   ·exact h2
def maxE (a b : EC) : EC := if a ≤ b then b else a
def minE (a b : EC) : EC := if a ≤ b then a else b
def bothE (a b : ES) : ES := ⟨maxE a.l b.l, minE a.h b.h⟩
def meetE (t : ES → ES → Bool) : List ES → List ES → List ES
 | [], _ => []
 | _ :: _, [] => []
 | a :: s, b :: u =>
  let rest := if a.h < b.h ∨ a.h = b.h ∧ t a b = true then meetE t s (b :: u) else meetE t (a :: s) u
  if (bothE a b).l < (bothE a b).h then bothE a b :: rest else rest
termination_by s u => s.length + u.length
theorem mem_meet {c : EC} {t : ES → ES → Bool} : ∀ (s u : List ES), Ok s → Ok u → (mem c (meetE t s u) ↔ mem c s ∧ mem c u)
 | [], _, _, _ => by simp [meetE, mem]
 | _ :: _, [], _, _ => by simp [meetE, mem]
 | a :: s, b :: u, ⟨ha, hs⟩, ⟨hb, hu⟩ => by
  have i1 := mem_meet (c := c) (t := t) s (b :: u) hs.ok ⟨hb, hu⟩
  have i2 := mem_meet (c := c) (t := t) (a :: s) u ⟨ha, hs⟩ hu.ok
  have m1 : mem c s → a.h < c := mem_above hs
  have m2 : mem c u → b.h < c := mem_above hu
  rw [meetE]
  have hx : ((bothE a b).l ≤ c ∧ c < (bothE a b).h) ↔ (a.l ≤ c ∧ c < a.h) ∧ (b.l ≤ c ∧ c < b.h) := by
   simp only [bothE, maxE, minE]; split <;> split <;> grind
  by_cases hn : (bothE a b).l < (bothE a b).h
  ·rw [if_pos hn]
   simp only [mem, hx]
   split
   ·rw [i1]; simp only [mem]; grind
   ·rw [i2]; simp only [mem]; grind
  ·rw [if_neg hn]
   have hx2 : ¬ ((a.l ≤ c ∧ c < a.h) ∧ (b.l ≤ c ∧ c < b.h)) := by rw [← hx]; grind
   simp only [mem]
   split
   ·rw [i1]; simp only [mem]; grind
   ·rw [i2]; simp only [mem]; grind
termination_by s u => s.length + u.length
theorem ab_meet {t : ES → ES → Bool} : ∀ (s u : List ES), Ok s → Ok u → Ok (meetE t s u) ∧ ∀ e, (Ab e s ∨ Ab e u) → Ab e (meetE t s u)
 | [], _, _, _ => by simp [meetE, Ok, Ab]
 | _ :: _, [], _, _ => by simp [meetE, Ok, Ab]
 | a :: s, b :: u, hs, hu => by
  obtain ⟨ha, hs⟩ := hs
  obtain ⟨hb, hu⟩ := hu
  obtain ⟨o1, i1⟩ := ab_meet (t := t) s (b :: u) hs.ok ⟨hb, hu⟩
  obtain ⟨o2, i2⟩ := ab_meet (t := t) (a :: s) u ⟨ha, hs⟩ hu.ok
  rw [meetE]
  have hl : (bothE a b).h ≤ a.h ∧ (bothE a b).h ≤ b.h ∧ a.l ≤ (bothE a b).l ∧ b.l ≤ (bothE a b).l := by
   simp only [bothE, maxE, minE]; split <;> split <;> grind
  have key : Ok (if a.h < b.h ∨ a.h = b.h ∧ t a b = true then meetE t s (b :: u) else meetE t (a :: s) u) ∧ Ab (bothE a b).h (if a.h < b.h ∨ a.h = b.h ∧ t a b = true then meetE t s (b :: u) else meetE t (a :: s) u) ∧
    ∀ e, (Ab e (a :: s) ∨ Ab e (b :: u)) → Ab e (if a.h < b.h ∨ a.h = b.h ∧ t a b = true then meetE t s (b :: u) else meetE t (a :: s) u) := by
   split
   ·refine ⟨o1, i1 _ (.inl (hs.mono (by grind))), fun e he => i1 e ?_⟩
    rcases he with he | he
    ·exact .inl (hs.mono (by have := he.1; have := he.2.1; grind))
    ·exact .inr he
   ·refine ⟨o2, i2 _ (.inr (hu.mono (by grind))), fun e he => i2 e ?_⟩
    rcases he with he | he
    ·exact .inl he
    ·exact .inr (hu.mono (by have := he.1; have := he.2.1; grind))
  obtain ⟨k1, k2, k3⟩ := key
  by_cases hn : (bothE a b).l < (bothE a b).h
  ·rw [if_pos hn]
   refine ⟨⟨hn, k2⟩, fun e he => ⟨?_, hn, k2⟩⟩
   rcases he with he | he
   ·have := he.1; grind
   ·have := he.1; grind
  ·rw [if_neg hn]
   exact ⟨k1, k3⟩
termination_by s u => s.length + u.length
def rowS (a : ES) : List ES → List ES
 | [] => []
 | b :: u => if (bothE a b).l < (bothE a b).h then bothE a b :: rowS a u else rowS a u
def meetR : List ES → List ES → List ES
 | [], _ => []
 | a :: s, u => rowS a u ++ meetR s u
theorem mem_append' {c : EC} : ∀ {s u : List ES}, mem c (s ++ u) ↔ mem c s ∨ mem c u
 | [], u => by simp [mem]
 | x :: r, u => by simp only [List.cons_append, mem, mem_append']; grind
theorem mem_row {c : EC} {a : ES} : ∀ {u : List ES}, mem c (rowS a u) ↔ (a.l ≤ c ∧ c < a.h) ∧ mem c u
 | [] => by simp [rowS, mem]
 | b :: u => by
  have ih := mem_row (c := c) (a := a) (u := u)
  have hx : ((bothE a b).l ≤ c ∧ c < (bothE a b).h) ↔ (a.l ≤ c ∧ c < a.h) ∧ (b.l ≤ c ∧ c < b.h) := by
   simp only [bothE, maxE, minE]; split <;> split <;> grind
  unfold rowS
  split
  ·simp only [mem, hx, ih]; grind
  ·simp only [mem, ih]; grind
theorem mem_meetR {c : EC} : ∀ {s u : List ES}, mem c (meetR s u) ↔ mem c s ∧ mem c u
 | [], u => by simp [meetR, mem]
 | a :: s, u => by simp only [meetR, mem_append', mem_row, mem, mem_meetR]; grind
theorem ab_append {e f : EC} : ∀ {s u : List ES}, Ab e s → (∀ x ∈ s, x.h ≤ f) → e ≤ f → Ab f u → Ab e (s ++ u)
 | [], u, _, _, h, hu => hu.mono h
 | x :: r, u, hs, hx, h, hu => ⟨hs.1, hs.2.1, ab_append hs.2.2 (fun y hy => hx y (by simp [hy])) (hx x (by simp)) hu⟩
theorem rowS_le {a : ES} : ∀ {u : List ES}, ∀ x ∈ rowS a u, x.h ≤ a.h
 | [], x, hx => by simp [rowS] at hx
 | b :: u, x, hx => by
  unfold rowS at hx
  have hl : (bothE a b).h ≤ a.h := by simp only [bothE, minE]; split <;> grind
  split at hx
  ·rcases List.mem_cons.1 hx with rfl | hx
   ·exact hl
   ·exact rowS_le x hx
  ·exact rowS_le x hx
theorem ab_row {a : ES} : ∀ {u : List ES}, Ok u → Ok (rowS a u) ∧ ∀ e, (e < a.l ∨ Ab e u) → Ab e (rowS a u)
 | [], _ => by simp [rowS, Ok, Ab]
 | b :: u, hu => by
  obtain ⟨hb, hu⟩ := hu
  obtain ⟨o, i⟩ := ab_row (a := a) hu.ok
  have hl : (bothE a b).h ≤ a.h ∧ (bothE a b).h ≤ b.h ∧ a.l ≤ (bothE a b).l ∧ b.l ≤ (bothE a b).l := by
   simp only [bothE, maxE, minE]; split <;> split <;> grind
  unfold rowS
  have k2 := i _ (.inr (hu.mono hl.2.1))
  split
  ·refine ⟨⟨by assumption, k2⟩, fun e he => ⟨?_, by assumption, k2⟩⟩
   rcases he with he | he
   ·grind
   ·have := he.1; grind
  ·refine ⟨o, fun e he => i e ?_⟩
   rcases he with he | he
   ·exact .inl he
   ·exact .inr (hu.mono (by have := he.1; have := he.2.1; grind))
theorem ab_meetR : ∀ {s u : List ES} {e : EC}, Ab e s → Ok u → Ab e (meetR s u)
 | [], u, e, _, _ => trivial
 | a :: s, u, e, hs, hu => by
  obtain ⟨h1, h2, h3⟩ := hs
  exact ab_append ((ab_row hu).2 e (.inl h1)) (fun x hx => rowS_le x hx) (by grind) (ab_meetR h3 hu)
theorem ok_append {f : EC} {s u : List ES} (h : Ok s) (hx : ∀ x ∈ s, x.h ≤ f) (hu : Ab f u) : Ok (s ++ u) := by
 cases s with
 | nil => exact hu.ok
 | cons x r => exact ⟨h.1, ab_append h.2 (fun y hy => hx y (by simp [hy])) (hx x (by simp)) hu⟩
theorem ok_meetR {s u : List ES} (hs : Ok s) (hu : Ok u) : Ok (meetR s u) := by
 cases s with
 | nil => trivial
 | cons a s => exact ok_append (ab_row hu).1 (fun x hx => rowS_le x hx) (ab_meetR hs.2 hu)
theorem meet_eq {t : ES → ES → Bool} {s u : List ES} (hs : Ok s) (hu : Ok u) : meetE t s u = meetR s u :=
 uniq (ab_meet s u hs hu).1 (ok_meetR hs hu) fun c => by rw [mem_meet s u hs hu, mem_meetR]
end Go.Proofs.YtepfpgnjpkcgmaaGreat
