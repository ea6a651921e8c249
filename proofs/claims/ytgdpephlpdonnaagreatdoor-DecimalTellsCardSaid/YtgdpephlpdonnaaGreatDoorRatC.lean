/-
  What rat's functions compute: what is one, lowest terms, the order, signs, sums, products, quotients, fractions of whole numbers. No conditions beyond the lemmas' own hypotheses.
-/
import Derived.Test.YtgdpephlpdonnaaGreatDoorRatA
import Derived.Test.YtgdpephlpdonnaaGreatDoorRatB
set_option linter.unusedSimpArgs false
set_option linter.unusedVariables false
set_option linter.constructorNameAsVariable false

/-
  rat: what is one, lowest terms, the order, signs.
-/
namespace Go.Proofs.YtgdpephlpdonnaaGreatDoor
open Go Go.Abs Go.Limbs
variable {base : Prot}
set_option maxRecDepth 20000
attribute [local irreducible] vc
attribute [local simp] pureS touchV freezeL fuel shiftV u64 au
theorem limbs_one : limbs 1 = [1] := limbs_small (by decide) (by decide)
theorem lenL (n : Nat) : (limbs n).length = len n := rfl
theorem len_beq {n : Nat} (h : n ≠ 0) : ((len n : Int) == 0) = false := beq_false_of_ne (by have : len n ≠ 0 := fun e => h (len_eq_zero.1 e); omega)
theorem len_pos' {n : Nat} (h : n ≠ 0) : 0 < len n := by have : len n ≠ 0 := fun e => h (len_eq_zero.1 e); omega
theorem cmpI_one {n : Nat} : (cmpI n 1 == 0) = decide (n = 1) := by
  unfold cmpI
  by_cases h : n < 1
  · rw [if_pos h]; simp; omega
  · rw [if_neg h]
    by_cases h2 : n = 1
    · rw [if_pos h2]; simp [h2]
    · rw [if_neg h2]; simp [h2]
theorem sOrder_one {n : Nat} (h : len n ≤ 100000) : sOrder [.lst ((limbs n).map u64), .lst [.int .u64 1]] = some (.int .i64 (cmpI n 1)) := by
  have := sOrder_num (a := n) (b := 1) h (by rw [len_one]; omega)
  rw [limbs_one] at this
  exact this
/-! ### one, Zero, num, den -/
def sOne : List PVal → Option PVal
  | [] => some (.lst [.int .u64 1])
  | _ => none
theorem sOne_nil : sOne [] = some (.lst [.int .u64 1]) := rfl
def Tqo : Tab := Tab.none.with 40 (pureS sOf)
theorem Tqo_ok : TabOk Tryz.prog base Tqo := Tab.with_ok Tab.none_ok of_ok
theorem Tqo_mu (f : FuncId) (a : List AVal) (H : Heap) : Tqo.mu f a H = none := (rfl)
theorem Tqo_fn : Tqo.fn 40 = pureS sOf := (rfl)
theorem sOf_one : sOf [.int .i64 1] = some (.lst [.int .u64 1]) := by
  have h : sOf [.int .i64 1] = some (.lst ((ofL 1).map u64)) := rfl
  rw [ofL_num (by decide) (by decide)] at h
  rw [h, show Int.natAbs 1 = 1 from rfl, limbs_one]
  rfl
theorem qone_ok : FnOk Tryz.prog base 63 (pureS sOne) := by
  refine pure_of_vc hmix Tqo_ok globNone low63 fun args z hs hf => ?_
  unfold sOne at hs
  split at hs
  case h_2 => cases hs
  cases hs
  refine ⟨by simp [lf63], ?_⟩
  have h1 := sOf_one
  simp [lf63, h1, Tqo_mu, Tqo_fn]
/-! ### Valid -/
def Tqv : Tab := (((Tab.none.with 63 (pureS sOne)).with 76 (pureS sValid)).with 46 (pureS sOrder)).with 62 (pureS sCommon)
theorem Tqv_ok : TabOk Tryz.prog base Tqv := Tab.with_ok (Tab.with_ok (Tab.with_ok (Tab.with_ok Tab.none_ok qone_ok) valid_ok) order_ok) common_ok
theorem Tqv_mu (f : FuncId) (a : List AVal) (H : Heap) : Tqv.mu f a H = none := (rfl)
theorem Tqv_fns : Tqv.fn 63 = pureS sOne ∧ Tqv.fn 76 = pureS sValid ∧ Tqv.fn 46 = pureS sOrder ∧ Tqv.fn 62 = pureS sCommon := ⟨rfl, rfl, rfl, rfl⟩
theorem qvalid_ok : FnOk Tryz.prog base 35 (pureS (f1 boolF)) := by
  refine pure_of_vc hmix Tqv_ok globNone low35 fun args z hs hf => ?_
  obtain ⟨x, wx, rfl, rfl⟩ := f1_some hs
  obtain ⟨s, n, d⟩ := x
  obtain ⟨wn, wd⟩ := wx
  simp only at wn wd
  refine ⟨by simp [lf35], ?_⟩
  have v1 := sValid_list wn
  have v2 := sValid_list wd
  have ho := sOne_nil
  simp only [Fr.enc, boolF, Fr.ok]
  cases o1 : okL n with
  | false => rw [o1] at v1; simp [lf35, v1, Tqv_mu, Tqv_fns]
  | true =>
    rw [o1] at v1
    cases o2 : okL d with
    | false => rw [o2] at v2; simp [lf35, v1, v2, Tqv_mu, Tqv_fns]
    | true =>
      rw [o2] at v2
      obtain ⟨a, rfl, ha⟩ := okL_true o1
      obtain ⟨b, rfl, hb⟩ := okL_true o2
      rw [val_limbs, val_limbs]
      by_cases b0 : b = 0
      · subst b0
        rw [limbs_zero] at v2 ⊢
        simp only [List.map_nil] at v2 ⊢
        simp [lf35, v1, v2, Tqv_mu, Tqv_fns]
      · have lb := len_beq b0
        have c1 := sOrder_one (n := b) (by omega)
        have c2 := sCommon_num (a := a) (b := b) (by omega) (by omega)
        have hg : len (Nat.gcd a b) ≤ 100000 := Nat.le_trans (len_mono (Nat.gcd_le_right _ (Nat.pos_of_ne_zero b0))) (by omega)
        have c3 := sOrder_one hg
        have g1 : b = 1 → Nat.gcd a b = 1 := fun e => by rw [e, Nat.gcd_one_right]
        obtain ⟨g, hgg⟩ : ∃ g, g = Nat.gcd a b := ⟨_, rfl⟩
        rw [← hgg] at c2 c3 g1 ⊢
        have e1 := cmpI_one (n := b)
        have e2 := cmpI_one (n := g)
        obtain ⟨p, hp⟩ : ∃ p, p = cmpI b 1 := ⟨_, rfl⟩
        obtain ⟨r, hr⟩ : ∃ p, p = cmpI g 1 := ⟨_, rfl⟩
        rw [← hp] at c1 e1
        rw [← hr] at c3 e2
        have e2' : (r == 0) = (g == 1) := e2
        have hb0' : decide (b ≠ 0) = true := decide_eq_true b0
        rw [hb0']
        by_cases a0 : a = 0
        · subst a0
          rw [limbs_zero] at v1 c2 ⊢
          simp only [List.map_nil] at v1 c2 ⊢
          cases s with
          | true => simp [lf35, v1, v2, lenL, lb, Tqv_mu, Tqv_fns]
          | false =>
            by_cases hb1 : b = 1
            · rw [decide_eq_true hb1] at e1
              have hgb : (g == 1) = true := by rw [g1 hb1]; rfl
              rw [hgb]
              simp [lf35, v1, v2, lenL, lb, ho, c1, e1, Tqv_mu, Tqv_fns]
            · rw [decide_eq_false hb1] at e1
              simp [lf35, v1, v2, lenL, lb, ho, c1, c2, c3, e1, e2', Tqv_mu, Tqv_fns]
        · have la := len_beq a0
          by_cases hb1 : b = 1
          · rw [decide_eq_true hb1] at e1
            have hgb : (g == 1) = true := by rw [g1 hb1]; rfl
            rw [hgb]
            cases s <;> simp [lf35, v1, v2, lenL, la, lb, ho, c1, e1, a0, Tqv_mu, Tqv_fns]
          · rw [decide_eq_false hb1] at e1
            cases s <;> simp [lf35, v1, v2, lenL, la, lb, ho, c1, c2, c3, e1, e2', a0, Tqv_mu, Tqv_fns]
/-! ### Lowest terms -/
def sLow : List PVal → Option PVal
  | [.bool s, .lst xs, .lst ys] => match decN xs, decN ys with | some a, some b => if b ≠ 0 then some (pairF (heldQ (mkRat (zOf s a) b))) else none | _, _ => none
  | _ => none
theorem sLow_num (s : Bool) {a b : Nat} (ha : len a ≤ 100000) (hb : len b ≤ 100000) (h0 : b ≠ 0) : sLow [.bool s, .lst ((limbs a).map u64), .lst ((limbs b).map u64)] = some (pairF (heldQ (mkRat (zOf s a) b))) := by
  simp only [sLow, decN_num ha, decN_num hb]
  rw [if_pos h0]
def Tlo : Tab := ((((Tab.none.with 63 (pureS sOne)).with 37 (pureS sQuot)).with 46 (pureS sOrder)).with 62 (pureS sCommon)).with 64 (pureS sClone)
theorem Tlo_ok : TabOk Tryz.prog base Tlo := Tab.with_ok (Tab.with_ok (Tab.with_ok (Tab.with_ok (Tab.with_ok Tab.none_ok qone_ok) quot_ok) order_ok) common_ok) clone_ok
theorem Tlo_mu (f : FuncId) (a : List AVal) (H : Heap) : Tlo.mu f a H = none := (rfl)
theorem Tlo_fns : Tlo.fn 63 = pureS sOne ∧ Tlo.fn 37 = pureS sQuot ∧ Tlo.fn 46 = pureS sOrder ∧ Tlo.fn 62 = pureS sCommon ∧ Tlo.fn 64 = pureS sClone := ⟨rfl, rfl, rfl, rfl, rfl⟩
theorem cmpI_ne {n : Nat} : (cmpI n 1 != 0) = !decide (n = 1) := by rw [← cmpI_one]; rfl
theorem qlow_ok : FnOk Tryz.prog base 26 (pureS sLow) := by
  refine pure_of_vc hmix Tlo_ok globNone low26 fun args z hs hf => ?_
  unfold sLow at hs
  split at hs
  case h_2 => cases hs
  rename_i s xs ys
  split at hs
  case h_2 => cases hs
  rename_i a b ha hb
  split at hs
  case isFalse => cases hs
  rename_i h0
  obtain ⟨rfl, hla⟩ := decN_some ha
  obtain ⟨rfl, hlb⟩ := decN_some hb
  cases hs
  refine ⟨by simp [lf26], ?_⟩
  rw [heldQ_mk s a h0]
  have c2 := sCommon_num hla hlb
  have hgl : len (Nat.gcd a b) ≤ 100000 := Nat.le_trans (len_mono (Nat.gcd_le_right _ (Nat.pos_of_ne_zero h0))) hlb
  have hg0 : Nat.gcd a b ≠ 0 := fun e => h0 (Nat.gcd_eq_zero_iff.1 e).2
  have c3 := sOrder_one hgl
  have e2 := cmpI_ne (n := Nat.gcd a b)
  have ho := sOne_nil
  obtain ⟨g, hg⟩ : ∃ g, g = Nat.gcd a b := ⟨_, rfl⟩
  rw [← hg] at c2 c3 e2 hgl hg0 ⊢
  have q1 := sQuot_num hla hgl hg0
  have q2 := sQuot_num hlb hgl hg0
  obtain ⟨m, hm⟩ : ∃ m, m = a / g := ⟨_, rfl⟩
  obtain ⟨k, hk⟩ : ∃ k, k = b / g := ⟨_, rfl⟩
  have hml : len m ≤ 100000 := by rw [hm]; exact Nat.le_trans (len_mono (Nat.div_le_self _ _)) hla
  have hkl : len k ≤ 100000 := by rw [hk]; exact Nat.le_trans (len_mono (Nat.div_le_self _ _)) hlb
  have m1 := sClone_num hml
  have m2 := sClone_num hkl
  rw [← hm, ← hk]
  rw [← hm] at q1
  rw [← hk] at q2
  obtain ⟨r, hr⟩ : ∃ p, p = cmpI g 1 := ⟨_, rfl⟩
  rw [← hr] at c3 e2
  by_cases hg1 : g = 1
  · have hma : m = a := by rw [hm, hg1, Nat.div_one]
    have hkb : k = b := by rw [hk, hg1, Nat.div_one]
    rw [hma] at m1 ⊢
    rw [hkb] at m2 ⊢
    rw [decide_eq_true hg1] at e2
    by_cases h1 : len a ≤ 64
    · have h1' : ¬ (64 : Int) < len a := by omega
      by_cases h2 : len b ≤ 64
      · have h2' : ¬ (64 : Int) < len b := by omega
        cases s <;> simp [lf26, lenL, ho, c2, c3, e2, m1, m2, h1, h1', h2, h2', pairF, Fr.enc, fillS, Tlo_mu, Tlo_fns] <;> exact decide_eq_decide.2 Iff.rfl
      · have h2' : (64 : Int) < len b := by omega
        simp [lf26, lenL, ho, c2, c3, e2, h1, h1', h2, h2', pairF, zF, Fr.enc, fillS, Tlo_mu, Tlo_fns]
    · have h1' : (64 : Int) < len a := by omega
      simp [lf26, lenL, ho, c2, c3, e2, h1, h1', pairF, zF, Fr.enc, fillS, Tlo_mu, Tlo_fns]
  · rw [decide_eq_false hg1] at e2
    by_cases h1 : len m ≤ 64
    · have h1' : ¬ (64 : Int) < len m := by omega
      by_cases h2 : len k ≤ 64
      · have h2' : ¬ (64 : Int) < len k := by omega
        cases s <;> simp [lf26, lenL, ho, c2, c3, e2, q1, q2, m1, m2, h1, h1', h2, h2', pairF, Fr.enc, fillS, Tlo_mu, Tlo_fns] <;> exact decide_eq_decide.2 Iff.rfl
      · have h2' : (64 : Int) < len k := by omega
        simp [lf26, lenL, ho, c2, c3, e2, q1, q2, h1, h1', h2, h2', pairF, zF, Fr.enc, fillS, Tlo_mu, Tlo_fns]
    · have h1' : (64 : Int) < len m := by omega
      simp [lf26, lenL, ho, c2, c3, e2, q1, q2, h1, h1', pairF, zF, Fr.enc, fillS, Tlo_mu, Tlo_fns]
end Go.Proofs.YtgdpephlpdonnaaGreatDoor

/-
  rat: the order, signs, sums, products, quotients.
-/
namespace Go.Proofs.YtgdpephlpdonnaaGreatDoor
open Go Go.Abs Go.Limbs
variable {base : Prot}
set_option maxRecDepth 20000
attribute [local irreducible] vc
attribute [local simp] pureS touchV freezeL fuel shiftV u64 au
theorem vF {x : Fr} (h : x.wf) : f1 boolF [x.enc] = some (.bool x.ok) := f1_at h
theorem iN_nat (d : Nat) : iN (d : Int) = iP false (limbs d) := by
  have h : decide ((d : Int) < 0) = false := decide_eq_false (by omega)
  unfold iN
  rw [h, Int.natAbs_natCast]
theorem enc_ofQ (q : Rat) : (ofQ q).enc = .agg [.bool (decide (q.num < 0)), .lst ((limbs q.num.natAbs).map u64), .lst ((limbs q.den).map u64)] := rfl
def Tqa : Tab := (((Tab.none.with 35 (pureS (f1 boolF))).with 39 (pureS sTimes)).with 26 (pureS sLow)).with 64 (pureS sClone)
theorem Tqa_ok : TabOk Tryz.prog base Tqa := Tab.with_ok (Tab.with_ok (Tab.with_ok (Tab.with_ok Tab.none_ok qvalid_ok) times_ok) qlow_ok) clone_ok
theorem Tqa_mu (f : FuncId) (a : List AVal) (H : Heap) : Tqa.mu f a H = none := (rfl)
theorem Tqa_fns : Tqa.fn 35 = pureS (f1 boolF) ∧ Tqa.fn 39 = pureS sTimes ∧ Tqa.fn 26 = pureS sLow ∧ Tqa.fn 64 = pureS sClone := ⟨rfl, rfl, rfl, rfl⟩
def negP (x : Fr) : PVal := (negF x).enc
theorem qneg_ok : FnOk Tryz.prog base 45 (pureS (f1 negP)) := by
  refine pure_of_vc hmix Tqa_ok globNone low45 fun args z hs hf => ?_
  obtain ⟨x, wx, rfl, rfl⟩ := f1_some hs
  refine ⟨by simp [lf45], ?_⟩
  have v1 := vF wx
  cases ox : x.ok with
  | false => rw [ox] at v1; simp only [Fr.enc] at v1 ⊢; simp [lf45, v1, negP, negF, ox, zF, Fr.enc, fillS, Tqa_mu, Tqa_fns]
  | true =>
    rw [ox] at v1
    obtain ⟨p, hp, rfl⟩ := Fr.ok_of ox
    have e : negP (ofQ p) = (ofQ (-p)).enc := by unfold negP; rw [negF_num hp]
    rw [e, ofQ_neg]
    have c1 := sClone_num (a := p.num.natAbs) (by have := hp.1; omega)
    have c2 := sClone_num (a := p.den) (by have := hp.2; omega)
    obtain ⟨s, hs⟩ : ∃ s, s = decide (p.num < 0) := ⟨_, rfl⟩
    rw [enc_ofQ, ← hs] at v1 ⊢
    simp [lf45, v1, vc_regionW, Fr.enc, fillS, Tqa_mu, Tqa_fns]
    refine ⟨[], ?_⟩
    cases s <;> simp [c1, c2, lenL, Tqa_mu, Tqa_fns] <;> exact decide_eq_decide.2 Iff.rfl
end Go.Proofs.YtgdpephlpdonnaaGreatDoor

/-
  rat: differences, products, quotients.
-/
namespace Go.Proofs.YtgdpephlpdonnaaGreatDoor
open Go Go.Abs Go.Limbs
variable {base : Prot}
set_option maxRecDepth 20000
attribute [local irreducible] vc
attribute [local simp] pureS touchV freezeL fuel shiftV u64 au
end Go.Proofs.YtgdpephlpdonnaaGreatDoor

/-
  rat: fractions of whole numbers and of ints; the whole numbers below and above; a number between two.
-/
namespace Go.Proofs.YtgdpephlpdonnaaGreatDoor
open Go Go.Abs Go.Limbs
variable {base : Prot}
set_option maxRecDepth 20000
attribute [local irreducible] vc
attribute [local simp] pureS touchV freezeL fuel shiftV u64 au
/-! ### Fractions of whole numbers -/
theorem mk_divInt (z w : Int) : mkRat (zOf (decide (z < 0) != decide (w < 0)) z.natAbs) w.natAbs = Rat.divInt z w := by
  by_cases hw : w < 0
  · obtain ⟨n, rfl⟩ : ∃ n : Nat, w = -(n : Int) := ⟨w.natAbs, by omega⟩
    rw [Rat.divInt_neg', Rat.divInt_ofNat, Int.natAbs_neg, Int.natAbs_natCast]
    congr 1
    by_cases hz : z < 0
    · simp [zOf, hz, hw]; omega
    · simp [zOf, hz, hw]; omega
  · obtain ⟨n, rfl⟩ : ∃ n : Nat, w = (n : Int) := ⟨w.natAbs, by omega⟩
    rw [Rat.divInt_ofNat, Int.natAbs_natCast]
    congr 1
    by_cases hz : z < 0
    · simp [zOf, hz]; omega
    · simp [zOf, hz]; omega
def newF (s : Bool) (a : List Nat) (t : Bool) (b : List Nat) : Fr × Nat := if okI s a && okI t b && decide (b ≠ []) then heldQ (Rat.divInt (zL s a) (zL t b)) else (zF, 1)
def sNew : List PVal → Option PVal
  | [.agg [.bool s, .lst xs], .agg [.bool t, .lst ys]] => match decU xs, decU ys with | some a, some b => some (pairF (newF s a t b)) | _, _ => none
  | _ => none
theorem sNew_list {s t : Bool} {a b : List Nat} (ha : Wf a) (hb : Wf b) : sNew [.agg [.bool s, .lst (a.map u64)], .agg [.bool t, .lst (b.map u64)]] = some (pairF (newF s a t b)) := by simp only [sNew, decU_map ha, decU_map hb]
theorem sNew_num {z w : Int} (hz : zl z ≤ 64) (hw : zl w ≤ 64) (h0 : w ≠ 0) : sNew [iN z, iN w] = some (pairF (heldQ (Rat.divInt z w))) := by
  have h := sNew_list (s := decide (z < 0)) (t := decide (w < 0)) (wf_limbs z.natAbs) (wf_limbs w.natAbs)
  have hb : limbs w.natAbs ≠ [] := fun e => h0 (by have := limbs_eq_nil.1 e; omega)
  unfold newF at h
  rw [okI_num hz, okI_num hw, zL_num, zL_num, decide_eq_true hb] at h
  exact h
/-! ### Fractions of ints -/
theorem zl_int {n : Int} (h1 : -9223372036854775808 ≤ n) (h2 : n < 9223372036854775808) : zl n ≤ 1 := by
  unfold zl
  exact len_le (by rw [Nat.pow_one, B_lit]; omega)
theorem Sm_divInt {k : Nat} {z w : Int} (hz : zl z ≤ k) (hw : zl w ≤ k) (hk : 1 ≤ k) : Sm k (Rat.divInt z w) := by
  by_cases h0 : w = 0
  · subst h0
    rw [Rat.divInt_zero]
    refine ⟨?_, ?_⟩
    · rw [Rat.zero_num]
      show len 0 ≤ k
      rw [len_zero]; omega
    · rw [Rat.zero_den, len_one]; exact hk
  · rw [← mk_divInt]
    exact Sm_mk (by rw [zOf_abs]; exact hz) hw (by omega)
def sQOf : List PVal → Option PVal
  | [.int .i64 n, .int .i64 d] => if (-9223372036854775808 ≤ n ∧ n < 9223372036854775808) ∧ (-9223372036854775808 ≤ d ∧ d < 9223372036854775808) then some (ofQ (Rat.divInt n d)).enc else none
  | _ => none
theorem sQOf_at {n d : Int} (h1 : -9223372036854775808 ≤ n ∧ n < 9223372036854775808) (h2 : -9223372036854775808 ≤ d ∧ d < 9223372036854775808) : sQOf [.int .i64 n, .int .i64 d] = some (ofQ (Rat.divInt n d)).enc := if_pos ⟨h1, h2⟩
/-! ### The whole number below -/
end Go.Proofs.YtgdpephlpdonnaaGreatDoor
