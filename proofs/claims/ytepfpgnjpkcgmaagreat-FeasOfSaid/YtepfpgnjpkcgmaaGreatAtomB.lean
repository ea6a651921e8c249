/-
  What atom.Make and the reference's ValidAtom compute, for sums of at most a million parts.
-/
import Derived.Test.YtepfpgnjpkcgmaaGreatAtomA
import Derived.Test.YtepfpgnjpkcgmaaGreatLinH
set_option linter.unusedSimpArgs false
set_option linter.unnecessarySimpa false
set_option linter.unusedVariables false
set_option linter.constructorNameAsVariable false

/-
 Atoms made of sums: what is made; atom.Make and the reference's.
-/
namespace Go.Proofs.YtepfpgnjpkcgmaaGreat
open Go Go.Abs Go.Limbs
variable {base : Prot}
set_option maxRecDepth 20000
attribute [local irreducible] vc
attribute [local simp] pureS touchV freezeL fuel shiftV u64 au
def k3 (k : Int) : Int := if k = 4 then 3 else k
def ki (g : Int → Po → PVal) : List PVal → Option PVal
 | [.int .i64 k, a] => match decPo a with | some p => if p.few = true then some (g k p) else none | none => none
 | _ => none
theorem s_ok {x : Fr} (h : x.ok = true) : x.s = decide (signF x < 0) := by
 obtain ⟨q, hq, rfl⟩ := Fr.ok_of h
 rw [signF_num hq]
 show decide (q.num < 0) = _
 rw [decide_eq_decide, cmpQ_neg_iff, Rat.lt_iff]
 show _ ↔ q.num * ((1 : Nat) : Int) < 0 * (q.den : Int)
 rw [Int.zero_mul]
 omega
end Go.Proofs.YtepfpgnjpkcgmaaGreat

/-
 The reference's atoms: what is one, what is made.
-/
namespace Go.Proofs.YtepfpgnjpkcgmaaGreat
open Go Go.Abs Go.Limbs
variable {base : Prot}
set_option maxRecDepth 20000
attribute [local irreducible] vc
attribute [local simp] pureS touchV freezeL fuel shiftV u64 au
theorem rnopoly_ok : FnOk Tryz.prog base 114 (pureS (g1 bareP)) := by
 refine pure_of_vc hmix Tab.none_ok globNone low114 fun args z hs hf => ?_
 obtain ⟨p, wp, rfl, rfl⟩ := g1_some hs
 refine ⟨by simp [lf114], ?_⟩
 obtain ⟨ps, ⟨s, n, d⟩⟩ := p
 have e : decide (Po.mk ps ⟨s, n, d⟩ = zPo) = (decide (ps = []) && (!s && (decide (n = []) && decide (d = [])))) := by
  rw [Bool.eq_iff_iff]
  simp [zPo, zF]
 unfold bareP
 rw [e]
 have hl : ∀ {α : Type} (l : List α), ((l.length : Int) == 0) = decide (l = []) := fun l => by
  cases l with
  | nil => rfl
  | cons _ _ => simp; omega
 simp only [Po.enc]
 by_cases h1 : ps = []
 ·cases s with
  | true => subst h1; simp [lf114]
  | false =>
   by_cases h2 : n = []
   ·subst h1 h2
    simp [lf114, hl]
   ·subst h1
    simp [lf114, hl, h2]
 ·simp [lf114, hl, h1]
theorem sameF_dec (x y : Fr) : sameF x y = decide (x = y) := by
 obtain ⟨s, n, d⟩ := x
 obtain ⟨s', n', d'⟩ := y
 unfold sameF
 rw [Bool.eq_iff_iff]
 simp
 try grind
theorem sameP_dec (x y : Fr) : sameP x y = .bool (decide (x = y)) := by unfold sameP; rw [sameF_dec]
theorem neg_one {c : Fr} (h : c.ok = true) : decide (negF c = ofQ 1) = decide (c = ofQ (-1)) := by
 obtain ⟨q, hq, rfl⟩ := Fr.ok_of h
 rw [negF_num hq, decide_eq_decide]
 constructor
 ·intro e
  have := ofQ_inj e
  rw [show q = -1 by grind]
 ·intro e
  have := ofQ_inj e
  rw [this]; rfl
def Trvat : Tab := ((((Tab.none.with 114 (pureS (g1 bareP))).with 31 (pureS (g1 okPo))).with 82 (pureS sQOf)).with 29 (pureS (f2 sameP))).with 53 (pureS (f1 negP))
theorem Trvat_ok : TabOk Tryz.prog base Trvat := Tab.with_ok (Tab.with_ok (Tab.with_ok (Tab.with_ok (Tab.with_ok Tab.none_ok rnopoly_ok) rpvalid_ok) rofR_ok) rsame_ok) rNeg_ok
theorem Trvat_mu (f : FuncId) (a : List AVal) (H : Heap) : Trvat.mu f a H = none := (rfl)
theorem Trvat_fns : Trvat.fn 114 = (pureS (g1 bareP)) ∧ Trvat.fn 31 = (pureS (g1 okPo)) ∧ Trvat.fn 82 = (pureS sQOf) ∧ Trvat.fn 29 = (pureS (f2 sameP)) ∧ Trvat.fn 53 = (pureS (f1 negP)) := ⟨rfl, rfl, rfl, rfl, rfl⟩
theorem rvatom_ok : FnOk Tryz.prog base 47 (pureS (h1 okAt)) := by
 refine pure_of_vc hmix Trvat_ok globNone low47 fun args z hs hf => ?_
 obtain ⟨⟨k, p, a, b⟩, wp, rfl, rfl⟩ := h1_some hs
 refine ⟨by simp [lf47], ?_⟩
 simp only at wp
 have v2 : g1 okPo [p.enc] = some (.bool p.ok) := g1_at wp
 have v3 : g1 bareP [p.enc] = some (.bool (decide (p = zPo))) := g1_at wp
 have ek : ∀ n : Int, (k == n) = decide (k = n) := fun n => rfl
 have ea : (a == 0) = decide (a = 0) := rfl
 have eb : (b == 0) = decide (b = 0) := rfl
 have na : (a != 0) = decide (a ≠ 0) := by rw [bne, ea]; simp
 have nb : (b != 0) = decide (b ≠ 0) := by rw [bne, eb]; simp
 unfold okAt At.ok
 simp only
 obtain ⟨q, hq⟩ : ∃ q, q = decide (p = zPo) := ⟨_, rfl⟩
 by_cases h5 : k = 5
 ·subst h5
  rw [show isSum 5 = false from rfl, ← hq]
  rw [← hq] at v3
  simp only [At.enc, Po.enc, Fr.enc] at v3 ⊢
  by_cases ha : 0 ≤ a
  ·by_cases hab : a < b
   ·simp [lf47, v3, ha, hab, Trvat_mu, Trvat_fns]
   ·simp [lf47, v3, ha, hab, Trvat_mu, Trvat_fns]
  ·simp [lf47, v3, ha, Trvat_mu, Trvat_fns]
 ·by_cases h6 : k = 6
  ·subst h6
   rw [show isSum 6 = false from rfl, ← hq]
   rw [← hq] at v3
   simp only [At.enc, Po.enc, Fr.enc] at v3 ⊢
   by_cases ha : 0 ≤ a
   ·by_cases hb : b = 0
    ·simp [lf47, v3, ha, hb, Trvat_mu, Trvat_fns]
    ·simp [lf47, v3, ha, eb, hb, Trvat_mu, Trvat_fns]
   ·simp [lf47, v3, ha, Trvat_mu, Trvat_fns]
  ·rw [if_neg h5, if_neg h6]
   cases hsum : isSum k with
   | false =>
    unfold isSum at hsum
    rw [Bool.or_eq_false_iff, Bool.or_eq_false_iff, decide_eq_false_iff_not, decide_eq_false_iff_not, decide_eq_false_iff_not] at hsum
    obtain ⟨h1, h2, h3⟩ := hsum
    simp only [At.enc, Po.enc, Fr.enc]
    simp [lf47, ek, h1, h2, h3, h5, h6, Trvat_mu, Trvat_fns]
   | true =>
    have hk : k = 1 ∨ k = 2 ∨ k = 3 := by
     unfold isSum at hsum
     simpa using hsum
    by_cases ha : a = 0
    ·by_cases hb : b = 0
     ·cases hok : p.ok with
      | false =>
       rw [hok] at v2
       simp only [At.enc, Po.enc, Fr.enc] at v2 ⊢
       rcases hk with rfl | rfl | rfl <;> simp [lf47, v2, ha, hb, Trvat_mu, Trvat_fns]
      | true =>
       rw [hok] at v2
       obtain ⟨ps, pc⟩ := p
       cases ps with
       | nil =>
        simp only [At.enc, Po.enc, Fr.enc, List.map_nil] at v2 ⊢
        rcases hk with rfl | rfl | rfl <;> simp [lf47, v2, ha, hb, headU, Trvat_mu, Trvat_fns]
       | cons x ps =>
        have hx := ok_part hok (by simp : x ∈ x :: ps)
        have wx : x.c.wf := wp.1 x (by simp)
        have hl0 : ((ps.length : Int) + 1 == 0) = false := by simp; omega
        have hp1 : (0 : Int) < (ps.length : Int) + 1 := by omega
        have o1 := ofR (n := 1) (d := 1) (by decide)
        rw [p1_eq] at o1
        have s1 : f2 sameP [x.c.enc, (ofQ 1).enc] = some (sameP x.c (ofQ 1)) := f2_at wx (wf_ofQ _)
        have s2 : f2 sameP [(negF x.c).enc, (ofQ 1).enc] = some (sameP (negF x.c) (ofQ 1)) := f2_at (wf_negF _) (wf_ofQ _)
        have n1 : f1 negP [x.c.enc] = some (negF x.c).enc := f1_at wx
        have e2 := neg_one hx
        simp only [headU, unitF]
        rw [sameP_dec] at s1 s2
        rw [← e2]
        obtain ⟨y, hy⟩ : ∃ y, y = negF x.c := ⟨_, rfl⟩
        rw [← hy] at s2 n1 ⊢
        obtain ⟨x1, h1⟩ : ∃ x, x = ofQ 1 := ⟨_, rfl⟩
        rw [← h1] at s1 s2 o1 ⊢
        obtain ⟨b1, hb1⟩ : ∃ b, b = decide (x.c = x1) := ⟨_, rfl⟩
        obtain ⟨b2, hb2⟩ : ∃ b, b = decide (y = x1) := ⟨_, rfl⟩
        rw [← hb1] at s1 ⊢
        rw [← hb2] at s2 ⊢
        simp only [At.enc, Po.enc, Fr.enc, Pa.enc, List.map_cons] at v2 o1 s1 s2 n1 ⊢
        cases b1 <;> rcases hk with rfl | rfl | rfl <;> simp [lf47, v2, o1, s1, s2, n1, ha, hb, hl0, hp1, Trvat_mu, Trvat_fns]
     ·simp only [At.enc, Po.enc, Fr.enc]
      rcases hk with rfl | rfl | rfl <;> simp [lf47, ha, nb, hb, Trvat_mu, Trvat_fns]
    ·simp only [At.enc, Po.enc, Fr.enc]
     rcases hk with rfl | rfl | rfl <;> simp [lf47, na, ha, Trvat_mu, Trvat_fns]
end Go.Proofs.YtepfpgnjpkcgmaaGreat
