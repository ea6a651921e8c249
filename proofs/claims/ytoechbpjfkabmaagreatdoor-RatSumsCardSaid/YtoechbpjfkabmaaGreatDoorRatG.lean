/-
  law3's same, few and awake. No conditions beyond the lemmas' own hypotheses.
-/
import Derived.Test.YtoechbpjfkabmaaGreatDoorRatE
import Derived.Test.YtoechbpjfkabmaaGreatDoorRatF
set_option linter.unusedSimpArgs false
set_option linter.unusedVariables false
set_option linter.constructorNameAsVariable false

/-
  law3: same, few, awake; the functions of fractions at numbers.
-/
namespace Go.Proofs.YtoechbpjfkabmaaGreatDoor
open Go Go.Abs Go.Limbs
variable {base : Prot}
set_option maxRecDepth 20000
attribute [local irreducible] vc
attribute [local simp] pureS touchV freezeL fuel shiftV u64 au
/-! ### At numbers -/
theorem vQ {q : Rat} (h : Sm 64 q) : f1 boolF [(ofQ q).enc] = some (.bool true) := by rw [vF (wf_ofQ q), ok_ofQ h]
theorem addP_num {p q : Rat} (hp : Sm 64 p) (hq : Sm 64 q) (h : Sm 64 (p + q)) : f2 addP [(ofQ p).enc, (ofQ q).enc] = some (pairF (ofQ (p + q), 0)) := by
  rw [f2_at (wf_ofQ p) (wf_ofQ q)]; unfold addP; rw [addF_num hp hq, heldQ_ok h]
theorem subP_num {p q : Rat} (hp : Sm 64 p) (hq : Sm 64 q) (h : Sm 64 (p - q)) : f2 subP [(ofQ p).enc, (ofQ q).enc] = some (pairF (ofQ (p - q), 0)) := by
  rw [f2_at (wf_ofQ p) (wf_ofQ q)]; unfold subP; rw [subF_num hp hq, heldQ_ok h]
theorem mulP_num {p q : Rat} (hp : Sm 64 p) (hq : Sm 64 q) (h : Sm 64 (p * q)) : f2 mulP [(ofQ p).enc, (ofQ q).enc] = some (pairF (ofQ (p * q), 0)) := by
  rw [f2_at (wf_ofQ p) (wf_ofQ q)]; unfold mulP; rw [mulF_num hp hq, heldQ_ok h]
theorem quoP_num {p q : Rat} (hp : Sm 64 p) (hq : Sm 64 q) (h0 : q ≠ 0) (h : Sm 64 (p / q)) : f2 quoP [(ofQ p).enc, (ofQ q).enc] = some (pairF (ofQ (p / q), 0)) := by
  rw [f2_at (wf_ofQ p) (wf_ofQ q)]; unfold quoP; rw [quoF_num hp hq h0, heldQ_ok h]
theorem quoP_zero {p : Rat} : f2 quoP [(ofQ p).enc, (ofQ 0).enc] = some (pairF (zF, 1)) := by
  rw [f2_at (wf_ofQ p) (wf_ofQ 0)]; unfold quoP quoF; rw [q_ofQ, q_ofQ]; simp
/-! ### same and few -/
def sameF (x y : Fr) : Bool := decide (x.s = y.s) && decide (x.n = y.n) && decide (x.d = y.d)
def sameP (x y : Fr) : PVal := .bool (sameF x y)
theorem sameF_num (p q : Rat) : sameF (ofQ p) (ofQ q) = decide (p = q) := by
  by_cases h : p = q
  · subst h; simp [sameF]
  · rw [decide_eq_false h]
    cases hs : sameF (ofQ p) (ofQ q) with
    | false => rfl
    | true =>
      exfalso
      unfold sameF at hs
      simp only [Bool.and_eq_true, decide_eq_true_eq] at hs
      refine h (ofQ_inj ?_)
      obtain ⟨⟨h1, h2⟩, h3⟩ := hs
      cases hp : ofQ p
      cases hq : ofQ q
      rw [hp, hq] at h1 h2 h3
      simp only at h1 h2 h3
      rw [h1, h2, h3]
theorem sameP_two (p q : Rat) : f2 sameP [(ofQ p).enc, (ofQ q).enc] = some (.bool (decide (p = q))) := by
  rw [f2_at (wf_ofQ p) (wf_ofQ q)]; unfold sameP; rw [sameF_num]
theorem sameP_self (p : Rat) : f2 sameP [(ofQ p).enc, (ofQ p).enc] = some (.bool true) := by rw [sameP_two, decide_eq_true rfl]
theorem sameP_wf {x : Fr} (h : x.wf) : f2 sameP [x.enc, x.enc] = some (.bool true) := by
  rw [f2_at h h]; unfold sameP sameF; simp
theorem rsame_ok : FnOk Tryz.prog base 30 (pureS (f2 sameP)) := by
  refine pure_of_vc hmix Tsm_ok globNone low30 fun args z hs hf => ?_
  obtain ⟨x, y, wx, wy, rfl, rfl⟩ := f2_some hs
  obtain ⟨s, n, d⟩ := x
  obtain ⟨t, m, e⟩ := y
  refine ⟨by simp [lf30], ?_⟩
  have h1 := sSame_list wx.1 wy.1
  have h2 := sSame_list wx.2 wy.2
  simp only at h1 h2
  simp only [Fr.enc, sameP, sameF]
  obtain ⟨q1, hq1⟩ : ∃ q, q = decide (n = m) := ⟨_, rfl⟩
  obtain ⟨q2, hq2⟩ : ∃ q, q = decide (d = e) := ⟨_, rfl⟩
  rw [← hq1] at h1 ⊢
  rw [← hq2] at h2 ⊢
  cases s <;> cases t <;> cases q1 <;> cases q2 <;> simp [lf30, h1, h2, Tsm_mu, Tsm_fn]
def Tq3 : Tab := Tab.none.with 30 (pureS (f2 sameP))
theorem Tq3_ok : TabOk Tryz.prog base Tq3 := Tab.with_ok Tab.none_ok rsame_ok
theorem Tq3_mu (f : FuncId) (a : List AVal) (H : Heap) : Tq3.mu f a H = none := (rfl)
theorem Tq3_fn : Tq3.fn 30 = pureS (f2 sameP) := (rfl)
theorem lsame_ok : FnOk Tryz.prog base 47 (pureS (f2 sameP)) := by
  refine pure_of_vc hmix Tq3_ok globNone low47 fun args z hs hf => ?_
  obtain ⟨x, y, wx, wy, rfl, rfl⟩ := f2_some hs
  refine ⟨by simp [lf47], ?_⟩
  have h1 : f2 sameP [x.enc, y.enc] = some (.bool (sameF x y)) := f2_at wx wy
  unfold sameP
  obtain ⟨b, hb⟩ : ∃ b, b = sameF x y := ⟨_, rfl⟩
  rw [← hb] at h1 ⊢
  simp only [Fr.enc] at h1 ⊢
  simp [lf47, h1, Tq3_mu, Tq3_fn]
def fewF (x y : Fr) : Bool := decide (x.n.length ≤ 10) && decide (x.d.length ≤ 10) && (decide (y.n.length ≤ 10) && decide (y.d.length ≤ 10))
def fewP (x y : Fr) : PVal := .bool (fewF x y)
theorem few3_ok : FnOk Tryz.prog base 41 (pureS (f2 fewP)) := by
  refine pure_of_vc hmix Tab.none_ok globNone low41 fun args z hs hf => ?_
  obtain ⟨x, y, wx, wy, rfl, rfl⟩ := f2_some hs
  obtain ⟨s, n, d⟩ := x
  obtain ⟨t, m, e⟩ := y
  refine ⟨by simp [lf41], ?_⟩
  simp only [Fr.enc, fewP, fewF]
  have hI : ∀ l : List Nat, ((l.length : Int) ≤ 10) ↔ l.length ≤ 10 := fun l => by omega
  by_cases h1 : n.length ≤ 10 <;> by_cases h2 : d.length ≤ 10 <;> by_cases h3 : m.length ≤ 10 <;> by_cases h4 : e.length ≤ 10 <;> simp [lf41, hI, h1, h2, h3, h4]
/-! ### awake -/
def Tl3a : Tab := ((((((((((((((Tab.none.with 47 (pureS (f2 sameP))).with 46 (pureS sQOf)).with 50 (pureS (f2 addP))).with 49 (pureS (f2 subP))).with 54 (pureS (f2 mulP))).with 60 (pureS (f2 quoP))).with 45 (pureS sBet)).with 55 (pureS sQParse)).with 56 (pureS (f1 textF))).with 42 (pureS (f2 cmpP))).with 48 (pureS (f1 signP))).with 53 (pureS (f1 negP))).with 51 (pureS sFloor)).with 43 (pureS (f1 boolF)))
theorem Tl3a_ok : TabOk Tryz.prog base2 Tl3a := Tab.with_ok (Tab.with_ok (Tab.with_ok (Tab.with_ok (Tab.with_ok (Tab.with_ok (Tab.with_ok (Tab.with_ok (Tab.with_ok (Tab.with_ok (Tab.with_ok (Tab.with_ok (Tab.with_ok (Tab.with_ok Tab.none_ok lsame_ok) qof_ok) qadd_ok) qsub_ok) qmul_ok) qquo_ok) qbetween_ok) qparse_ok) qtext_ok) qcmp_ok) qsign_ok) qneg_ok) qfloor_ok) qvalid_ok
def Tl3b : Tab := ((((Tl3a.with 40 (pureS sSameI)).with 38 (pureS sIOf)).with 52 (pureS sNew)).with 41 (pureS (f2 fewP))).with 36 (pureS sSame)
theorem Tl3b_ok : TabOk Tryz.prog base2 Tl3b := Tab.with_ok (Tab.with_ok (Tab.with_ok (Tab.with_ok (Tab.with_ok Tl3a_ok sameI_ok) riof_ok) qnew_ok) few3_ok) sameL_ok
theorem Tl3b_mu (f : FuncId) (a : List AVal) (H : Heap) : Tl3b.mu f a H = none := (rfl)
theorem Tl3b_fns : Tl3b.fn 47 = pureS (f2 sameP) ∧ Tl3b.fn 46 = pureS sQOf ∧ Tl3b.fn 50 = pureS (f2 addP) ∧ Tl3b.fn 49 = pureS (f2 subP) ∧ Tl3b.fn 54 = pureS (f2 mulP) ∧ Tl3b.fn 60 = pureS (f2 quoP) ∧ Tl3b.fn 45 = pureS sBet ∧ Tl3b.fn 55 = pureS sQParse ∧ Tl3b.fn 56 = pureS (f1 textF) ∧ Tl3b.fn 42 = pureS (f2 cmpP) ∧ Tl3b.fn 48 = pureS (f1 signP) ∧ Tl3b.fn 53 = pureS (f1 negP) ∧ Tl3b.fn 51 = pureS sFloor ∧ Tl3b.fn 43 = pureS (f1 boolF) ∧ Tl3b.fn 40 = pureS sSameI ∧ Tl3b.fn 38 = pureS sIOf ∧ Tl3b.fn 52 = pureS sNew ∧ Tl3b.fn 41 = pureS (f2 fewP) := ⟨rfl, rfl, rfl, rfl, rfl, rfl, rfl, rfl, rfl, rfl, rfl, rfl, rfl, rfl, rfl, rfl, rfl, rfl⟩
theorem sQOf_num {n d : Int} (q : Rat) (hn : -1000 ≤ n ∧ n ≤ 1000) (hd : -1000 ≤ d ∧ d ≤ 1000) (h : Rat.divInt n d = q) : sQOf [.int .i64 n, .int .i64 d] = some (ofQ q).enc := by rw [sQOf_at (by omega) (by omega), h]
theorem Sm_lit {q : Rat} (h1 : q.num.natAbs < B) (h2 : q.den < B) : Sm 1 q := ⟨len_le (by rw [Nat.pow_one]; exact h1), len_le (by rw [Nat.pow_one]; exact h2)⟩
end Go.Proofs.YtoechbpjfkabmaaGreatDoor

/-
  law3's awake.
-/
namespace Go.Proofs.YtoechbpjfkabmaaGreatDoor
open Go Go.Abs Go.Limbs
variable {base : Prot}
set_option maxRecDepth 20000
attribute [local irreducible] vc
attribute [local simp] pureS touchV freezeL fuel shiftV u64 au
theorem dS {k : Nat} (n d : Int) (h : (-1000 ≤ n ∧ n ≤ 1000) ∧ (-1000 ≤ d ∧ d ≤ 1000)) (hk : 1 ≤ k) : Sm k (Rat.divInt n d) :=
  Sm_divInt (Nat.le_trans (zl_int (by omega) (by omega)) hk) (Nat.le_trans (zl_int (by omega) (by omega)) hk) hk
theorem dO (n d : Int) (h : (-1000 ≤ n ∧ n ≤ 1000) ∧ (-1000 ≤ d ∧ d ≤ 1000)) : sQOf [.int .i64 n, .int .i64 d] = some (ofQ (Rat.divInt n d)).enc := sQOf_at (by omega) (by omega)
theorem dec_one {n : Nat} (h : n < 10) : Lib.decDigits n = [digit n] := Lib.decDigits_one h
theorem text_frac {q : Rat} {l : List UInt8} (hq : Sm 64 q) (h : textQ q = l) : f1 textF [(ofQ q).enc] = some (.str l) := by
  rw [f1_at (wf_ofQ q)]
  unfold textF
  rw [ok_ofQ hq, if_pos rfl, q_ofQ, h]
theorem t_m32 : textQ (Rat.divInt (-3) 2) = [45, 51, 47, 50] := by
  unfold textQ textZ
  rw [show (Rat.divInt (-3) 2).num = -3 from by decide +kernel, show (Rat.divInt (-3) 2).den = 2 from by decide +kernel]
  rw [if_neg (by decide), if_pos (by decide), show Int.natAbs (-3) = 3 from rfl, dec_one (by decide), dec_one (by decide)]
  decide
theorem t_512 : textQ (Rat.divInt 5 12) = [53, 47, 49, 50] := by
  unfold textQ textZ
  rw [show (Rat.divInt 5 12).num = 5 from by decide +kernel, show (Rat.divInt 5 12).den = 12 from by decide +kernel]
  rw [if_neg (by decide), if_neg (by decide), show Int.natAbs 5 = 5 from rfl, dec_one (by decide), dec_ten (by decide), show 12 / 10 = 1 from rfl, dec_one (by decide)]
  decide
theorem t_m1 : textQ (Rat.divInt (-1) 1) = [45, 49] := by
  unfold textQ textZ
  rw [show (Rat.divInt (-1) 1).num = -1 from by decide +kernel, show (Rat.divInt (-1) 1).den = 1 from by decide +kernel]
  rw [if_pos (by decide), if_pos (by decide), show Int.natAbs (-1) = 1 from rfl, dec_one (by decide)]
  decide
theorem parse_d (c : UInt8) (n : Nat) (h : digS [c] = true) (hn : numD 0 [c] = n) (hs : n < 1000) : parseL [c] = (limbs n, 0) := by
  unfold parseL
  rw [h, if_pos rfl]
  have := (List.dropWhile_sublist (p := (· == 48)) (l := [c])).length_le
  rw [if_neg (by simp only [List.length_cons, List.length_nil] at this; omega), hn]
  exact heldL_num (Nat.le_trans (len_le (k := 1) (by rw [Nat.pow_one, B_lit]; omega)) (by omega))
theorem p_64 : parseQ [45, 54, 47, 52] = (ofQ (Rat.divInt (-3) 2), 0) := by
  have e1 : cutU 47 [45, 54, 47, 52] = [45, 54] := by decide
  have e2 : downL [45, 54, 47, 52] = [52] := by decide
  unfold parseQ
  rw [e1, e2, if_pos (by decide), show digsL [45, 54] = [54] from rfl, show signL [45, 54] = true from rfl, parse_d 54 6 (by decide) (by decide) (by decide), parse_d 52 4 (by decide) (by decide) (by decide)]
  unfold lowF
  rw [if_pos ⟨rfl, rfl⟩, val_limbs, val_limbs, show mkRat (zOf true 6) 4 = Rat.divInt (-3) 2 from by decide +kernel]
  exact heldQ_ok (dS _ _ (by decide) (by decide))
def sAwake3 : List PVal → Option PVal
  | [] => some (.bool true)
  | _ => none
theorem sAwake3_nil : sAwake3 [] = some (.bool true) := rfl
theorem awake3_ok : FnOk Tryz.prog base2 44 (pureS sAwake3) := by
  refine pure_of_vc hmix Tl3b_ok globNone low44 fun args z hs hf => ?_
  unfold sAwake3 at hs
  split at hs
  case h_2 => cases hs
  cases hs
  refine ⟨by simp [lf44], ?_⟩
  have o13 := dO 1 3 (by decide)
  have o16 := dO 1 6 (by decide)
  have o12 := dO 1 2 (by decide)
  have o23 := dO 2 3 (by decide)
  have o49 := dO (-4) 9 (by decide)
  have o11 := dO 1 1 (by decide)
  have o01 := dO 0 1 (by decide)
  have o52 := dO (-5) 2 (by decide)
  have om12 := dO (-1) 2 (by decide)
  have om32 := dO (-3) 2 (by decide)
  have o50 := dO 5 0 (by decide)
  rw [show Rat.divInt 5 0 = Rat.divInt 0 1 from by decide +kernel] at o50
  have A := addP_num (dS 1 3 (by decide) (by decide)) (dS 1 6 (by decide) (by decide)) (by rw [show Rat.divInt 1 3 + Rat.divInt 1 6 = Rat.divInt 1 2 from by decide +kernel]; exact dS _ _ (by decide) (by decide))
  rw [show Rat.divInt 1 3 + Rat.divInt 1 6 = Rat.divInt 1 2 from by decide +kernel] at A
  have Q1 := quoP_num (dS 2 3 (by decide) (by decide)) (dS (-4) 9 (by decide) (by decide)) (by decide +kernel) (by rw [show Rat.divInt 2 3 / Rat.divInt (-4) 9 = Rat.divInt (-3) 2 from by decide +kernel]; exact dS _ _ (by decide) (by decide))
  rw [show Rat.divInt 2 3 / Rat.divInt (-4) 9 = Rat.divInt (-3) 2 from by decide +kernel] at Q1
  have Q2 : f2 quoP [(ofQ (Rat.divInt 1 1)).enc, (ofQ (Rat.divInt 0 1)).enc] = some (pairF (zF, 1)) := by
    rw [show Rat.divInt 0 1 = 0 from by decide +kernel]
    exact quoP_zero
  have B1 := sBet_num (dS 1 3 (by decide) (by decide)) (dS 1 2 (by decide) (by decide)) (by decide +kernel)
  rw [show betweenQ (Rat.divInt 1 3) (Rat.divInt 1 2) = Rat.divInt 5 12 from by decide +kernel, heldQ_ok (dS _ _ (by decide) (by decide))] at B1
  have B2 := sBet_num (dS (-5) 2 (by decide) (by decide)) (dS (-1) 2 (by decide) (by decide)) (by decide +kernel)
  rw [show betweenQ (Rat.divInt (-5) 2) (Rat.divInt (-1) 2) = Rat.divInt (-1) 1 from by decide +kernel, heldQ_ok (dS _ _ (by decide) (by decide))] at B2
  have Pp := sQParse_at (s := [45, 54, 47, 52]) (by decide)
  rw [p_64] at Pp
  have S1 := sameP_self (Rat.divInt 1 2)
  have S2 := sameP_self (Rat.divInt (-3) 2)
  have T1 := text_frac (dS (-3) 2 (by decide) (by decide)) t_m32
  have T2 := text_frac (dS 5 12 (by decide) (by decide)) t_512
  have T3 := text_frac (dS (-1) 1 (by decide) (by decide)) t_m1
  have C := cmpP_num (dS 1 3 (by decide) (by decide)) (dS 1 2 (by decide) (by decide))
  rw [show cmpQ (Rat.divInt 1 3) (Rat.divInt 1 2) = -1 from by decide +kernel] at C
  have N := negP_num (dS 1 2 (by decide) (by decide))
  rw [show -Rat.divInt 1 2 = Rat.divInt (-1) 2 from by decide +kernel] at N
  have G := signP_num (dS (-1) 2 (by decide) (by decide))
  rw [show cmpQ (Rat.divInt (-1) 2) 0 = -1 from by decide +kernel] at G
  have F := sFloor_num (dS (-1) 2 (by decide) (by decide))
  rw [show (Rat.divInt (-1) 2).floor = -1 from by decide +kernel] at F
  have I : sIOf [.int .i64 (-1)] = some (iN (-1)) := sIOf_at (by decide) (by decide)
  have SI : sSameI [iN (-1), iN (-1)] = some (.bool true) := by
    have := sSameI_list (s := decide ((-1 : Int) < 0)) (t := decide ((-1 : Int) < 0)) (wf_limbs (Int.natAbs (-1))) (wf_limbs (Int.natAbs (-1)))
    simp only [decide_eq_true_eq, decide_true, Bool.and_self] at this
    exact this
  have V1 := vQ (dS 0 1 (by decide) (by decide) : Sm 64 _)
  have V2 := vF wf_zF
  rw [ok_zF] at V2
  obtain ⟨x13, e13⟩ : ∃ x, x = ofQ (Rat.divInt 1 3) := ⟨_, rfl⟩
  obtain ⟨x16, e16⟩ : ∃ x, x = ofQ (Rat.divInt 1 6) := ⟨_, rfl⟩
  obtain ⟨x12, e12⟩ : ∃ x, x = ofQ (Rat.divInt 1 2) := ⟨_, rfl⟩
  obtain ⟨x23, e23⟩ : ∃ x, x = ofQ (Rat.divInt 2 3) := ⟨_, rfl⟩
  obtain ⟨x49, e49⟩ : ∃ x, x = ofQ (Rat.divInt (-4) 9) := ⟨_, rfl⟩
  obtain ⟨x11, e11⟩ : ∃ x, x = ofQ (Rat.divInt 1 1) := ⟨_, rfl⟩
  obtain ⟨x01, e01⟩ : ∃ x, x = ofQ (Rat.divInt 0 1) := ⟨_, rfl⟩
  obtain ⟨x52, e52⟩ : ∃ x, x = ofQ (Rat.divInt (-5) 2) := ⟨_, rfl⟩
  obtain ⟨xm12, em12⟩ : ∃ x, x = ofQ (Rat.divInt (-1) 2) := ⟨_, rfl⟩
  obtain ⟨xm32, em32⟩ : ∃ x, x = ofQ (Rat.divInt (-3) 2) := ⟨_, rfl⟩
  obtain ⟨x512, e512⟩ : ∃ x, x = ofQ (Rat.divInt 5 12) := ⟨_, rfl⟩
  obtain ⟨xm1, em1⟩ : ∃ x, x = ofQ (Rat.divInt (-1) 1) := ⟨_, rfl⟩
  simp only [← e13, ← e16, ← e12, ← e23, ← e49, ← e11, ← e01, ← e52, ← em12, ← em32, ← e512, ← em1] at o13 o16 o12 o23 o49 o11 o01 o52 om12 om32 o50 A Q1 Q2 B1 B2 Pp S1 S2 T1 T2 T3 C N G F V1
  simp only [pairF, zF, Fr.enc, List.map_nil] at o13 o16 o12 o23 o49 o11 o01 o52 om12 om32 o50 A Q1 Q2 B1 B2 Pp S1 S2 T1 T2 T3 C N G F V1 V2
  clear e13 e16 e12 e23 e49 e11 e01 e52 em12 em32 e512 em1
  simp [lf44, o13, o16, o12, o23, o49, o11, o01, o52, om12, om32, o50, A, Q1, Q2, B1, B2, Pp, S1, S2, T1, T2, T3, C, N, G, F, I, SI, V1, V2, binS, fillS, Tl3b_mu, Tl3b_fns]
def Tl3 : Tab := Tl3b.with 44 (pureS sAwake3)
theorem Tl3_ok : TabOk Tryz.prog base2 Tl3 := Tab.with_ok Tl3b_ok awake3_ok
theorem Tl3_mu (f : FuncId) (a : List AVal) (H : Heap) : Tl3.mu f a H = none := (rfl)
theorem Tl3_fns : Tl3.fn 44 = pureS sAwake3 ∧ Tl3.fn 47 = pureS (f2 sameP) ∧ Tl3.fn 46 = pureS sQOf ∧ Tl3.fn 50 = pureS (f2 addP) ∧ Tl3.fn 49 = pureS (f2 subP) ∧ Tl3.fn 54 = pureS (f2 mulP) ∧ Tl3.fn 60 = pureS (f2 quoP) ∧ Tl3.fn 45 = pureS sBet ∧ Tl3.fn 55 = pureS sQParse ∧ Tl3.fn 56 = pureS (f1 textF) ∧ Tl3.fn 42 = pureS (f2 cmpP) ∧ Tl3.fn 48 = pureS (f1 signP) ∧ Tl3.fn 53 = pureS (f1 negP) ∧ Tl3.fn 51 = pureS sFloor ∧ Tl3.fn 43 = pureS (f1 boolF) ∧ Tl3.fn 40 = pureS sSameI ∧ Tl3.fn 38 = pureS sIOf ∧ Tl3.fn 52 = pureS sNew ∧ Tl3.fn 41 = pureS (f2 fewP) ∧ Tl3.fn 36 = pureS sSame := ⟨rfl, rfl, rfl, rfl, rfl, rfl, rfl, rfl, rfl, rfl, rfl, rfl, rfl, rfl, rfl, rfl, rfl, rfl, rfl, rfl⟩
end Go.Proofs.YtoechbpjfkabmaaGreatDoor
